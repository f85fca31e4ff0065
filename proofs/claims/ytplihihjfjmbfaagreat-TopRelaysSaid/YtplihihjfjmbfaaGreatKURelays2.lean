/-
  Part 2 of what the proof of this law rests on.
-/
import Derived.Test.YtplihihjfjmbfaaGreatKURelays1
namespace Go.Proofs.YtplihihjfjmbfaaGreat
section
open Go.RowKit

structure Sub (s s' : St) : Prop where
  t : ∀ k v, look s.tmps k = some v → look s'.tmps k = some v
  h : ∀ k v, look s.hp k = some v → look s'.hp k = some v
def Sim (s s' : St) : Prop := (∀ k, look s.tmps k = look s'.tmps k) ∧ ∀ k, look s.hp k = look s'.hp k
theorem Sim.refl (s : St) : Sim s s := ⟨fun _ => rfl, fun _ => rfl⟩
theorem Sim.symm {s s' : St} (h : Sim s s') : Sim s' s := ⟨fun k => (h.1 k).symm, fun k => (h.2 k).symm⟩
theorem Sim.trans {s s' s'' : St} (h : Sim s s') (k : Sim s' s'') : Sim s s'' := ⟨fun x => (h.1 x).trans (k.1 x), fun x => (h.2 x).trans (k.2 x)⟩
theorem Sub.sim {s s' s'' : St} (h : Sub s s') (k : Sim s' s'') : Sub s s'' := ⟨fun x v hv => (k.1 x).symm.trans (h.t x v hv), fun x v hv => (k.2 x).symm.trans (h.h x v hv)⟩
theorem R.sim {K : Ctx} {n : Nat} {a : Act} {w : World} {s s' : St} (h : R K n a w s) (k : Sim s s') : R K n a w s' := by
  obtain ⟨g, h⟩ := h
  have hin : ∀ b o, InFoot g s'.hp b o ↔ InFoot g s.hp b o := fun b o => ⟨fun ⟨d, r, h1, h2⟩ => ⟨d, r, (k.2 d).trans h1, h2⟩, fun ⟨d, r, h1, h2⟩ => ⟨d, r, (k.2 d).symm.trans h1, h2⟩⟩
  have hrd : rdOf K g s'.hp w = rdOf K g s.hp w := by
    funext b o
    unfold rdOf
    by_cases hx : InFoot g s.hp b o
    · rw [if_pos hx, if_pos ((hin b o).2 hx)]
    · rw [if_neg hx, if_neg (fun q => hx ((hin b o).1 q))]
  refine ⟨g, h.defers, h.size, h.few, ⟨h.hg.keep, fun d r hd => ?_, fun b o hx => h.hg.may b o ((hin b o).1 hx), fun d d' r r' b o hne h1 h2 => h.hg.dis d d' r r' b o hne ((k.2 d).trans h1) ((k.2 d').trans h2), fun d cs h6 hd => h.hg.fix d cs h6 ((k.2 d).trans hd), fun d r hd => h.hg.new d r ((k.2 d).trans hd)⟩, fun t v hv => ?_⟩
  · rw [hrd]; exact h.hg.holds d r ((k.2 d).trans hd)
  · rw [hrd]; exact h.tmps t v ((k.1 t).trans hv)
theorem Stp.sim {P : Program} {K : Ctx} {n : Nat} {ops : Array Oper} {o : Oper} {s s' s'' : St} (h : Stp P K n ops o s s') (k : Sim s' s'') : Stp P K n ops o s s'' :=
  fun a w r K' Q hK => h a w r K' Q fun a' w' r' => hK a' w' (r'.sim k)
theorem Sub.opd {s s' : St} (h : Sub s s') {x : Operand} {v : SV} (hx : opd s x = some v) : opd s' x = some v := by
  cases x with
  | tmp t =>
    simp only [Go.Proofs.YtplihihjfjmbfaaGreat.opd] at hx ⊢
    split at hx
    · rename_i ht; rw [if_pos ht]; exact h.t t v hx
    · cases hx
  | const c => exact hx
  | func f => exact hx
  | global g => simp [Go.Proofs.YtplihihjfjmbfaaGreat.opd] at hx
theorem Sub.t2 {s s' : St} (h : Sub s s') {t : Nat} {v : SV} (k : (if t < 2000000 then look s.tmps t else none) = some v) : (if t < 2000000 then look s'.tmps t else none) = some v := by
  split at k
  · rename_i ht; rw [if_pos ht]; exact h.t t v k
  · cases k
theorem Sub.guard {s s' : St} (h : Sub s s') {ops : Array Oper} {o : Oper} {b : Bool} (hg : guardOf ops o s = some b) : guardOf ops o s' = some b := by
  unfold guardOf at *
  split
  · rename_i hn; rw [hn] at hg; exact hg
  · rename_i j want hn
    rw [hn] at hg
    simp only at hg
    split at hg
    · rename_i oj hoj
      try rw [hoj]
      try simp only
      split at hg
      · rename_i t ht
        try rw [ht]
        try simp only
        split at hg
        · rename_i b' hl
          rw [h.t2 hl]
          exact hg
        · rename_i hl
          rw [h.t2 hl]
          exact hg
        · cases hg
      · cases hg
    · cases hg
theorem Sub.grow {s s' : St} (h : Sub s s') {P : Program} {o : Oper} {v : SV} (hp : GrowOp P o s v) : GrowOp P o s' v := by
  intro g rd a w hv
  exact hp g rd a w ⟨fun x y hx hy => hv.op x y hx (h.opd hy), hv.reads, fun d r hd => hv.holds d r (h.h d r hd)⟩

def SC.kill0 (d : Nat) : SC → SC
  | .own e => if e = d then .any else .own e
  | .row e n => if e = d then .any else .row e n
  | .sub e s a n => if e = d then .any else .sub e s a n
  | .elt e s i o => if e = d then .any else .elt e s i o
  | .ex e => if e = d then .any else .ex e
  | x => x
def SC.kill (d : Nat) : SC → SC
  | .clo f cs => .clo f (cs.map (SC.kill0 d))
  | x => x.kill0 d
/-- the state, its values changed by m -/
def St.mapC (s : St) (m : SC → SC) : St := ⟨s.tmps.map fun p => (p.1, p.2.map m), s.hp.map fun p => (p.1, p.2.map m)⟩
def SC.solid0 : SC → Bool
  | .any => false
  | _ => true
def SC.solid : SC → Bool
  | .clo _ cs => cs.all SC.solid0
  | x => x.solid0
theorem kill0_id {d : Nat} {x : SC} (h : x.say0 (· != d) = true) : x.kill0 d = x := by
  cases x <;> simp [SC.say0, SC.kill0] at h ⊢ <;> exact fun e => absurd e h
theorem map_same {α : Type} {m : α → α} : ∀ {l : List α}, (∀ x ∈ l, m x = x) → l.map m = l
  | [], _ => rfl
  | x :: l, h => by rw [List.map_cons, h x (by simp), map_same fun y hy => h y (by simp [hy])]
theorem kill_eq {d : Nat} {x : SC} (h : ∀ f cs, x ≠ .clo f cs) : x.kill d = x.kill0 d := by
  cases x <;> first | rfl | exact absurd rfl (h _ _)
theorem kill0_nclo {d : Nat} {x : SC} (h : ∀ f cs, x ≠ .clo f cs) : ∀ f cs, x.kill0 d ≠ .clo f cs := by
  intro f cs
  cases x with
  | clo f cs => exact absurd rfl (h _ _)
  | own e => simp only [SC.kill0]; split <;> intro q <;> cases q
  | row e n => simp only [SC.kill0]; split <;> intro q <;> cases q
  | sub e s a n => simp only [SC.kill0]; split <;> intro q <;> cases q
  | elt e s i o => simp only [SC.kill0]; split <;> intro q <;> cases q
  | ex e => simp only [SC.kill0]; split <;> intro q <;> cases q
  | _ => intro q; cases q
theorem say_eq {p : Nat → Bool} {x : SC} (h : ∀ f cs, x ≠ .clo f cs) : x.say p = x.say0 p := by
  cases x <;> first | rfl | exact absurd rfl (h _ _)
theorem solid_eq {x : SC} (h : ∀ f cs, x ≠ .clo f cs) : x.solid = x.solid0 := by
  cases x <;> first | rfl | exact absurd rfl (h _ _)
theorem clo_or (x : SC) : (∃ f cs, x = .clo f cs) ∨ ∀ f cs, x ≠ .clo f cs := by
  cases x with
  | clo f cs => exact .inl ⟨f, cs, rfl⟩
  | _ => exact .inr fun f cs q => by cases q
theorem kill_id {d : Nat} {x : SC} (h : x.say (· != d) = true) : x.kill d = x := by
  rcases clo_or x with ⟨f, cs, rfl⟩ | hx
  · simp only [SC.kill]
    rw [map_same fun y hy => kill0_id (List.all_eq_true.1 h y hy)]
  · rw [kill_eq hx]
    rw [say_eq hx] at h
    exact kill0_id h
theorem kill0_back {d : Nat} {x y : SC} (hy : y.solid0 = true) (h : x.kill0 d = y) : x = y := by
  cases x <;> simp only [SC.kill0] at h <;> (try split at h) <;> (subst h) <;> first | rfl | (cases hy)
theorem map_back {α : Type} {m : α → α} {p : α → Bool} (hm : ∀ x y, p y = true → m x = y → x = y) : ∀ {l k : List α}, k.all p = true → l.map m = k → l = k
  | [], k, _, h => by simpa using h
  | x :: l, [], _, h => by cases h
  | x :: l, y :: k, hp, h => by
    simp only [List.map_cons, List.cons.injEq] at h
    simp only [List.all_cons, Bool.and_eq_true] at hp
    rw [hm x y hp.1 h.1, map_back hm hp.2 h.2]
theorem kill_back {d : Nat} {x y : SC} (hy : y.solid = true) (h : x.kill d = y) : x = y := by
  rcases clo_or x with ⟨f, cs, rfl⟩ | hx
  · simp only [SC.kill] at h
    subst h
    exact congrArg (SC.clo f) (map_back (p := SC.solid0) (fun a b hb hab => kill0_back hb hab) hy rfl)
  · rw [kill_eq hx] at h
    rw [solid_eq (h ▸ kill0_nclo hx)] at hy
    exact kill0_back hy h
theorem kill0_say {d : Nat} {p : Nat → Bool} {x : SC} (h : x.say0 p = true) : (x.kill0 d).say0 p = true := by
  cases x <;> simp only [SC.kill0] <;> (try split) <;> first | exact h | rfl
theorem kill_say {d : Nat} {p : Nat → Bool} {x : SC} (h : x.say p = true) : (x.kill d).say p = true := by
  rcases clo_or x with ⟨f, cs, rfl⟩ | hx
  · simp only [SC.kill, SC.say, List.all_map]
    exact List.all_eq_true.2 fun y hy => kill0_say (List.all_eq_true.1 h y hy)
  · rw [kill_eq hx, say_eq (kill0_nclo hx)]
    rw [say_eq hx] at h
    exact kill0_say h
theorem kill0_comm (a b : Nat) (x : SC) : (x.kill0 a).kill0 b = (x.kill0 b).kill0 a := by
  cases x with
  | own e => by_cases h1 : e = a <;> by_cases h2 : e = b <;> first | (simp only [SC.kill0, if_pos h1, if_pos h2]; done) | (simp only [SC.kill0, if_pos h1, if_neg h2]; done) | (simp only [SC.kill0, if_neg h1, if_pos h2]; done) | (simp only [SC.kill0, if_neg h1, if_neg h2]; done)
  | row e n => by_cases h1 : e = a <;> by_cases h2 : e = b <;> first | (simp only [SC.kill0, if_pos h1, if_pos h2]; done) | (simp only [SC.kill0, if_pos h1, if_neg h2]; done) | (simp only [SC.kill0, if_neg h1, if_pos h2]; done) | (simp only [SC.kill0, if_neg h1, if_neg h2]; done)
  | sub e s x n => by_cases h1 : e = a <;> by_cases h2 : e = b <;> first | (simp only [SC.kill0, if_pos h1, if_pos h2]; done) | (simp only [SC.kill0, if_pos h1, if_neg h2]; done) | (simp only [SC.kill0, if_neg h1, if_pos h2]; done) | (simp only [SC.kill0, if_neg h1, if_neg h2]; done)
  | elt e s i o => by_cases h1 : e = a <;> by_cases h2 : e = b <;> first | (simp only [SC.kill0, if_pos h1, if_pos h2]; done) | (simp only [SC.kill0, if_pos h1, if_neg h2]; done) | (simp only [SC.kill0, if_neg h1, if_pos h2]; done) | (simp only [SC.kill0, if_neg h1, if_neg h2]; done)
  | ex e => by_cases h1 : e = a <;> by_cases h2 : e = b <;> first | (simp only [SC.kill0, if_pos h1, if_pos h2]; done) | (simp only [SC.kill0, if_pos h1, if_neg h2]; done) | (simp only [SC.kill0, if_neg h1, if_pos h2]; done) | (simp only [SC.kill0, if_neg h1, if_neg h2]; done)
  | _ => rfl
theorem kill_comm (a b : Nat) (x : SC) : (x.kill a).kill b = (x.kill b).kill a := by
  rcases clo_or x with ⟨f, cs, rfl⟩ | hx
  · simp only [SC.kill, List.map_map]
    exact congrArg (SC.clo f) (List.map_congr_left fun y _ => kill0_comm a b y)
  · rw [kill_eq hx, kill_eq hx, kill_eq (kill0_nclo hx), kill_eq (kill0_nclo hx), kill0_comm]
theorem sv_id {m : SC → SC} {p : SC → Bool} (hm : ∀ x, p x = true → m x = x) {v : SV} (h : v.every p = true) : v.map m = v := by
  cases v with
  | c x => exact congrArg SV.c (hm x h)
  | agg cs => exact congrArg SV.agg (map_same fun y hy => hm y (List.all_eq_true.1 h y hy))
  | tup vs =>
    refine congrArg SV.tup (map_same fun y hy => ?_)
    have := List.all_eq_true.1 h y hy
    obtain ⟨b, cs⟩ := y
    exact congrArg (Prod.mk b) (map_same fun z hz => hm z (List.all_eq_true.1 this z hz))
theorem sv_back {m : SC → SC} {p : SC → Bool} (hm : ∀ x y, p y = true → m x = y → x = y) {v u : SV} (h : u.every p = true) (e : v.map m = u) : v = u := by
  cases v with
  | c x => subst e; exact congrArg SV.c (hm x _ h rfl)
  | agg cs => subst e; exact congrArg SV.agg (map_back hm h rfl)
  | tup vs =>
    subst e
    refine congrArg SV.tup (map_back (p := fun x : Bool × List SC => x.2.all p) (fun a b hb hab => ?_) h rfl)
    obtain ⟨b1, cs⟩ := a
    subst hab
    exact congrArg (Prod.mk b1) (map_back hm hb rfl)
theorem sv_every {m : SC → SC} {p : SC → Bool} (hm : ∀ x, p x = true → p (m x) = true) {v : SV} (h : v.every p = true) : (v.map m).every p = true := by
  cases v with
  | c x => exact hm x h
  | agg cs =>
    simp only [SV.map, SV.every, List.all_map]
    exact List.all_eq_true.2 fun y hy => hm y (List.all_eq_true.1 h y hy)
  | tup vs =>
    simp only [SV.map, SV.every, List.all_map]
    refine List.all_eq_true.2 fun y hy => ?_
    simp only [Function.comp, List.all_map]
    exact List.all_eq_true.2 fun z hz => hm z (List.all_eq_true.1 (List.all_eq_true.1 h y hy) z hz)
theorem sv_comm {m k : SC → SC} (h : ∀ x, m (k x) = k (m x)) (v : SV) : (v.map m).map k = (v.map k).map m := by
  cases v with
  | c x => simp only [SV.map, h]
  | agg cs => simp only [SV.map, List.map_map]; exact congrArg SV.agg (List.map_congr_left fun y _ => (h y).symm)
  | tup vs => simp only [SV.map, List.map_map]; exact congrArg SV.tup (List.map_congr_left fun y _ => by simp only [Function.comp, List.map_map]; exact congrArg (Prod.mk y.1) (List.map_congr_left fun z _ => (h z).symm))
theorem res_id {m : SC → SC} {p : SC → Bool} (hm : ∀ x, p x = true → m x = x) {v : Res} (h : v.every p = true) : v.map m = v := by
  cases v with
  | box cs => exact congrArg Res.box (map_same fun y hy => hm y (List.all_eq_true.1 h y hy))
  | _ => rfl
theorem res_back {m : SC → SC} {p : SC → Bool} (hm : ∀ x y, p y = true → m x = y → x = y) {v u : Res} (h : u.every p = true) (e : v.map m = u) : v = u := by
  cases v with
  | box cs => subst e; exact congrArg Res.box (map_back hm h rfl)
  | _ => subst e; rfl
theorem res_every {m : SC → SC} {p : SC → Bool} (hm : ∀ x, p x = true → p (m x) = true) {v : Res} (h : v.every p = true) : (v.map m).every p = true := by
  cases v with
  | box cs =>
    simp only [Res.map, Res.every, List.all_map]
    exact List.all_eq_true.2 fun y hy => hm y (List.all_eq_true.1 h y hy)
  | _ => rfl
theorem res_comm {m k : SC → SC} (h : ∀ x, m (k x) = k (m x)) (v : Res) : (v.map m).map k = (v.map k).map m := by
  cases v with
  | box cs => simp only [Res.map, List.map_map]; exact congrArg Res.box (List.map_congr_left fun y _ => (h y).symm)
  | _ => rfl
theorem look_mapv {α β : Type} (f : α → β) : ∀ (l : List (Nat × α)) (k : Nat), look (l.map fun p => (p.1, f p.2)) k = (look l k).map f
  | [], _ => rfl
  | (a, x) :: l, k => by
    rw [List.map_cons, look_cons, look_cons]
    split
    · rfl
    · exact look_mapv f l k

structure DD where
  need : St
  dst : Option Tmp
  v : SV
  up : Option (Nat × Res)
  new : Bool
  kl : Option Nat
def DD.pre (d : DD) (s : St) : St := match d.kl with
  | some b => s.mapC (SC.kill b)
  | none => s
def DD.app (d : DD) (s : St) : St := match d.up with
  | some (b, r) => ((d.pre s).setR b r).put d.dst d.v
  | none => (d.pre s).put d.dst d.v
def DD.kt (d : DD) (old : Option SV) : Option SV := match d.kl with
  | some b => old.map (SV.map (SC.kill b))
  | none => old
def DD.kb (d : DD) (old : Option Res) : Option Res := match d.kl with
  | some b => old.map (Res.map (SC.kill b))
  | none => old
def DD.lt (d : DD) (k : Nat) (old : Option SV) : Option SV := if d.dst = some k then some d.v else d.kt old
def DD.lb (d : DD) (k : Nat) (old : Option Res) : Option Res := match d.up with
  | some (b, r) => if b = k then some r else d.kb old
  | none => d.kb old
theorem put_hp (s : St) (d : Option Tmp) (v : SV) : (s.put d v).hp = s.hp := by cases d <;> rfl
theorem pre_t (d : DD) (s : St) (k : Nat) : look (d.pre s).tmps k = d.kt (look s.tmps k) := by
  unfold DD.pre DD.kt
  cases d.kl with
  | none => rfl
  | some b => exact look_mapv _ _ _
theorem pre_b (d : DD) (s : St) (k : Nat) : look (d.pre s).hp k = d.kb (look s.hp k) := by
  unfold DD.pre DD.kb
  cases d.kl with
  | none => rfl
  | some b => exact look_mapv _ _ _
theorem app_t (d : DD) (s : St) (k : Nat) : look (d.app s).tmps k = d.lt k (look s.tmps k) := by
  unfold DD.lt
  rw [← pre_t]
  unfold DD.app
  cases d.up with
  | none =>
    cases hd : d.dst with
    | none => simp [St.put]
    | some t => simp only [look_put]; simp
  | some p =>
    cases hd : d.dst with
    | none => simp [St.put, St.setR]
    | some t => simp only [look_put]; simp [St.setR]
theorem app_b (d : DD) (s : St) (k : Nat) : look (d.app s).hp k = d.lb k (look s.hp k) := by
  unfold DD.lb
  rw [← pre_b]
  unfold DD.app
  cases d.up with
  | none => simp only [put_hp]
  | some p => simp only [put_hp, St.setR, look_setL]
theorem app_sim {s s' : St} (d : DD) (h : Sim s s') : Sim (d.app s) (d.app s') :=
  ⟨fun k => by rw [app_t, app_t, h.1], fun k => by rw [app_b, app_b, h.2]⟩
def NM (d : Nat) (s : St) : Prop := NoName s d (some d)
theorem NM.sim {d : Nat} {s s' : St} (h : NM d s) (k : Sim s s') : NM d s' :=
  ⟨(k.2 d).symm.trans h.1, fun t v hv ht => h.2.1 t v ((k.1 t).trans hv) ht, fun e cs he => h.2.2 e cs ((k.2 e).trans he)⟩
def DD.name (d : DD) : Nat := (d.up.map (·.1)).getD 0
/-- x names not the variable that y makes -/
def DD.quiet (x y : DD) : Bool := !y.new || (x.v.every (SC.say (· != y.name)) && (match x.up with | some (b, r) => r.every (SC.say (· != y.name)) && b != y.name | none => true))
theorem NM.pre {d : Nat} {x : DD} {s : St} (h : NM d s) : NM d (x.pre s) := by
  unfold DD.pre
  split
  · rename_i b hb
    refine ⟨?_, fun t v hv ht => ?_, fun e cs he => ?_⟩
    · exact (look_mapv _ _ _).trans (by rw [h.1]; rfl)
    · rw [show look (s.mapC (SC.kill b)).tmps t = (look s.tmps t).map (SV.map (SC.kill b)) from look_mapv _ _ _] at hv
      obtain ⟨v0, h0, rfl⟩ := Option.map_eq_some_iff.1 hv
      exact sv_every (fun x hx => kill_say hx) (h.2.1 t v0 h0 ht)
    · rw [show look (s.mapC (SC.kill b)).hp e = (look s.hp e).map (Res.map (SC.kill b)) from look_mapv _ _ _] at he
      obtain ⟨v0, h0, rfl⟩ := Option.map_eq_some_iff.1 he
      exact res_every (fun x hx => kill_say hx) (h.2.2 e v0 h0)
  · exact h
theorem NM.app {x y : DD} {s : St} (h : NM y.name s) (hn : y.new = true) (hq : x.quiet y = true) : NM y.name (x.app s) := by
  unfold DD.quiet at hq
  rw [hn] at hq
  simp only [Bool.not_true, Bool.false_or, Bool.and_eq_true] at hq
  have hp := h.pre (x := x)
  refine ⟨?_, fun t v hv ht => ?_, fun e cs he => ?_⟩
  · rw [app_b]
    unfold DD.lb
    rw [← pre_b]
    split
    · rename_i b cs hb
      rw [hb] at hq
      simp only [Bool.and_eq_true] at hq
      rw [if_neg (by simpa using hq.2.2)]
      exact hp.1
    · exact hp.1
  · rw [app_t] at hv
    unfold DD.lt at hv
    rw [← pre_t] at hv
    split at hv
    · cases hv; exact hq.1
    · exact hp.2.1 t v hv ht
  · rw [app_b] at he
    unfold DD.lb at he
    rw [← pre_b] at he
    split at he
    · rename_i b cs' hb
      rw [hb] at hq
      simp only [Bool.and_eq_true] at hq
      split at he
      · cases he; exact hq.2.1
      · exact hp.2.2 e cs he
    · exact hp.2.2 e cs he
def VD (P : Program) (n : Nat) (ops : Array Oper) (o : Oper) (d : DD) : Prop := ∀ K s, Sub d.need s → (d.new = true → NM d.name s) → Stp P K n ops o s (d.app s)
def keysOf {α : Type} (l : List (Nat × α)) : List Nat := l.map (·.1)
/-- the kill of x is nothing to what y needs -/
def DD.sparesK (x y : DD) : Bool := match x.kl with
  | some b => y.need.tmps.all (fun p => p.2.every (fun c => c.say (· != b) && c.solid)) && y.need.hp.all (fun p => p.2.every (fun c => c.say (· != b) && c.solid))
  | none => true
/-- x writes nothing that y needs -/
def DD.spares (x y : DD) : Bool :=
  (match x.dst with | some t => !(keysOf y.need.tmps).contains t | none => true) &&
  (match x.up with | some (b, _) => !(keysOf y.need.hp).contains b | none => true) && x.sparesK y
/-- the kill of x is nothing to what y makes -/
def DD.otherK (x y : DD) : Bool := match x.kl with
  | some b => y.v.every (SC.say (· != b)) && (match y.up with | some (_, r) => r.every (SC.say (· != b)) | none => true)
  | none => true
def DD.other (x y : DD) : Bool :=
  (match x.dst, y.dst with | some a, some b => a != b | _, _ => true) &&
  (match x.up, y.up with | some a, some b => a.1 != b.1 | _, _ => true) && x.otherK y && y.otherK x
def DD.indep (x y : DD) : Bool := x.spares y && y.spares x && x.other y && x.quiet y && y.quiet x

theorem spares_sub {x y : DD} {s : St} (h : x.spares y = true) : Sub y.need s ↔ Sub y.need (x.app s) := by
  simp only [DD.spares, Bool.and_eq_true] at h
  obtain ⟨⟨h1, h2⟩, h3⟩ := h
  have e1 : ∀ k, k ∈ keysOf y.need.tmps → look (x.app s).tmps k = x.kt (look s.tmps k) := by
    intro k hk
    rw [app_t]
    unfold DD.lt
    rw [if_neg]
    intro he
    rw [he] at h1
    simp at h1
    exact h1 hk
  have e2 : ∀ k, k ∈ keysOf y.need.hp → look (x.app s).hp k = x.kb (look s.hp k) := by
    intro k hk
    rw [app_b]
    unfold DD.lb
    split
    · rename_i b cs hb
      rw [hb] at h2
      rw [if_neg]
      intro he
      subst he
      simp at h2
      exact h2 hk
    · rfl
  have key : ∀ {α : Type} {l : List (Nat × α)} {k : Nat} {v : α}, look l k = some v → k ∈ keysOf l := fun {α l k v} hl => List.mem_map.2 ⟨_, look_mem hl, rfl⟩
  unfold DD.sparesK at h3
  unfold DD.kt at e1
  unfold DD.kb at e2
  split at h3
  · rename_i b hb
    rw [hb] at e1 e2
    simp only [Bool.and_eq_true, List.all_eq_true] at h3
    obtain ⟨h3, h4⟩ := h3
    have i1 : ∀ c : SC, (c.say (· != b) && c.solid) = true → c.kill b = c := fun c hc => by
      simp only [Bool.and_eq_true] at hc
      exact kill_id hc.1
    have i2 : ∀ a c : SC, (c.say (· != b) && c.solid) = true → a.kill b = c → a = c := fun a c hc hac => by
      simp only [Bool.and_eq_true] at hc
      exact kill_back hc.2 hac
    constructor
    · intro hs
      refine ⟨fun k v hv => ?_, fun k v hv => ?_⟩
      · rw [e1 k (key hv), hs.t k v hv]
        exact congrArg some (sv_id i1 (h3 _ (look_mem hv)))
      · rw [e2 k (key hv), hs.h k v hv]
        exact congrArg some (res_id i1 (h4 _ (look_mem hv)))
    · intro hs
      refine ⟨fun k v hv => ?_, fun k v hv => ?_⟩
      · have := hs.t k v hv
        rw [e1 k (key hv)] at this
        obtain ⟨v0, h0, h5⟩ := Option.map_eq_some_iff.1 this
        rw [h0, sv_back i2 (h3 _ (look_mem hv)) h5]
      · have := hs.h k v hv
        rw [e2 k (key hv)] at this
        obtain ⟨v0, h0, h5⟩ := Option.map_eq_some_iff.1 this
        rw [h0, res_back i2 (h4 _ (look_mem hv)) h5]
  · rename_i hb
    rw [hb] at e1 e2
    constructor
    · intro hs
      exact ⟨fun k v hv => (e1 k (key hv)).trans (hs.t k v hv), fun k v hv => (e2 k (key hv)).trans (hs.h k v hv)⟩
    · intro hs
      exact ⟨fun k v hv => (e1 k (key hv)).symm.trans (hs.t k v hv), fun k v hv => (e2 k (key hv)).symm.trans (hs.h k v hv)⟩
theorem kt_comm (x y : DD) (o : Option SV) : y.kt (x.kt o) = x.kt (y.kt o) := by
  unfold DD.kt
  cases x.kl <;> cases y.kl <;> cases o <;> simp only [Option.map_none, Option.map_some]
  rename_i a b v
  rw [sv_comm (fun z => kill_comm b a z)]
theorem kb_comm (x y : DD) (o : Option Res) : y.kb (x.kb o) = x.kb (y.kb o) := by
  unfold DD.kb
  cases x.kl <;> cases y.kl <;> cases o <;> simp only [Option.map_none, Option.map_some]
  rename_i a b v
  rw [res_comm (fun z => kill_comm b a z)]
theorem kt_v {x y : DD} (h : x.otherK y = true) : x.kt (some y.v) = some y.v := by
  unfold DD.otherK at h
  unfold DD.kt
  split at h
  · rename_i b _
    simp only [Bool.and_eq_true] at h
    exact congrArg some (sv_id (fun c hc => kill_id hc) h.1)
  · rfl
theorem kb_v {x y : DD} (h : x.otherK y = true) {b : Nat} {r : Res} (hu : y.up = some (b, r)) : x.kb (some r) = some r := by
  unfold DD.otherK at h
  unfold DD.kb
  split at h
  · rename_i b _
    simp only [Bool.and_eq_true, hu] at h
    exact congrArg some (res_id (fun c hc => kill_id hc) h.2)
  · rfl
theorem other_comm {x y : DD} (h : x.other y = true) (s : St) : Sim (y.app (x.app s)) (x.app (y.app s)) := by
  simp only [DD.other, Bool.and_eq_true] at h
  obtain ⟨⟨⟨h1, h2⟩, h3⟩, h4⟩ := h
  refine ⟨fun k => ?_, fun k => ?_⟩
  · rw [app_t, app_t, app_t, app_t]
    unfold DD.lt
    by_cases hx : x.dst = some k
    · by_cases hy : y.dst = some k
      · rw [hx, hy] at h1; simp at h1
      · rw [if_neg hy, if_pos hx, if_pos hx, kt_v h4]
    · by_cases hy : y.dst = some k
      · rw [if_pos hy, if_neg hx, if_pos hy, kt_v h3]
      · rw [if_neg hy, if_neg hx, if_neg hx, if_neg hy, kt_comm]
  · rw [app_b, app_b, app_b, app_b]
    unfold DD.lb
    cases hx : x.up with
    | none =>
      cases hy : y.up with
      | none => exact kb_comm x y _
      | some q =>
        obtain ⟨b, r⟩ := q
        simp only
        by_cases e : b = k
        · rw [if_pos e, if_pos e, kb_v h3 hy]
        · rw [if_neg e, if_neg e, kb_comm]
    | some p =>
      obtain ⟨a, ra⟩ := p
      cases hy : y.up with
      | none =>
        simp only
        by_cases e : a = k
        · rw [if_pos e, if_pos e, kb_v h4 hx]
        · rw [if_neg e, if_neg e, kb_comm]
      | some q =>
        obtain ⟨b, r⟩ := q
        rw [hx, hy] at h2
        simp only [bne_iff_ne, ne_eq] at h2
        simp only
        by_cases e1 : a = k
        · have e2 : ¬ b = k := fun e => h2 (e1.trans e.symm)
          rw [if_neg e2, if_pos e1, if_pos e1, kb_v h4 hx]
        · by_cases e2 : b = k
          · rw [if_pos e2, if_neg e1, if_pos e2, kb_v h3 hy]
          · rw [if_neg e2, if_neg e1, if_neg e1, if_neg e2, kb_comm]
/-- the operations one after the other: what each needs is there -/
def RunD : List DD → St → Prop
  | [], _ => True
  | d :: l, s => Sub d.need s ∧ RunD l (d.app s)
def FinD : List DD → St → St
  | [], s => s
  | d :: l, s => FinD l (d.app s)
theorem RunD.sim : ∀ {l : List DD} {s s' : St}, RunD l s → Sim s s' → RunD l s'
  | [], _, _, _, _ => trivial
  | d :: _l, _, _, h, k => ⟨h.1.sim k, RunD.sim h.2 (app_sim d k)⟩
theorem FinD.sim : ∀ (l : List DD) {s s' : St}, Sim s s' → Sim (FinD l s) (FinD l s')
  | [], _, _, k => k
  | d :: l, _, _, k => FinD.sim l (app_sim d k)
theorem bubble {x : DD} {post : List DD} : ∀ (pre : List DD) (s : St), (∀ y ∈ pre, y.indep x = true) → RunD (pre ++ x :: post) s → RunD (x :: pre ++ post) s ∧ Sim (FinD (pre ++ x :: post) s) (FinD (x :: pre ++ post) s)
  | [], s, _, h => ⟨h, Sim.refl _⟩
  | y :: pre, s, hi, h => by
    obtain ⟨h1, h2⟩ := h
    obtain ⟨⟨h3, h4⟩, h5⟩ := bubble pre (y.app s) (fun z hz => hi z (List.mem_cons_of_mem _ hz)) h2
    have hyx := hi y (by simp)
    simp only [DD.indep, Bool.and_eq_true] at hyx
    obtain ⟨⟨⟨⟨a1, a2⟩, a3⟩, _⟩, _⟩ := hyx
    have hc := other_comm a3 s
    refine ⟨⟨(spares_sub a1).2 h3, (spares_sub a2).1 h1, RunD.sim h4 hc⟩, h5.trans ?_⟩
    exact FinD.sim (pre ++ post) hc

def Chk (anc : Nat → List Nat) : List (Nat × DD) → Bool
  | [] => true
  | p :: l => Chk anc l && l.all fun q => (anc q.1).contains p.1 || p.2.indep q.2
/-- whoever comes earlier names not what is made later -/
def Mute : List (Nat × DD) → Bool
  | [] => true
  | p :: l => Mute l && l.all fun q => p.2.quiet q.2

theorem Chk_mem {anc : Nat → List Nat} : ∀ {pre : List (Nat × DD)} {x : Nat × DD} {post : List (Nat × DD)}, Chk anc (pre ++ x :: post) = true → (∀ y ∈ pre, (anc x.1).contains y.1 = true ∨ y.2.indep x.2 = true) ∧ Chk anc (pre ++ post) = true
  | [], x, post, h => by
    simp only [List.nil_append, Chk, Bool.and_eq_true] at h
    exact ⟨by simp, h.1⟩
  | p :: pre, x, post, h => by
    simp only [List.cons_append, Chk, Bool.and_eq_true] at h
    obtain ⟨h1, h2⟩ := Chk_mem h.1
    have h3 := List.all_eq_true.1 h.2
    refine ⟨fun y hy => ?_, ?_⟩
    · rcases List.mem_cons.1 hy with rfl | hy
      · simpa using h3 x (by simp)
      · exact h1 y hy
    · simp only [List.cons_append, Chk, Bool.and_eq_true]
      refine ⟨h2, List.all_eq_true.2 fun q hq => h3 q ?_⟩
      rcases List.mem_append.1 hq with hq | hq
      · exact List.mem_append_left _ hq
      · exact List.mem_append_right _ (List.mem_cons_of_mem _ hq)
theorem Mute_mem : ∀ {pre : List (Nat × DD)} {x : Nat × DD} {post : List (Nat × DD)}, Mute (pre ++ x :: post) = true → (∀ q ∈ post, x.2.quiet q.2 = true) ∧ Mute (pre ++ post) = true
  | [], x, post, h => by
    simp only [List.nil_append, Mute, Bool.and_eq_true] at h
    exact ⟨fun q hq => List.all_eq_true.1 h.2 q hq, h.1⟩
  | p :: pre, x, post, h => by
    simp only [List.cons_append, Mute, Bool.and_eq_true] at h
    obtain ⟨h1, h2⟩ := Mute_mem h.1
    have h3 := List.all_eq_true.1 h.2
    refine ⟨h1, ?_⟩
    simp only [List.cons_append, Mute, Bool.and_eq_true]
    refine ⟨h2, List.all_eq_true.2 fun q hq => h3 q ?_⟩
    rcases List.mem_append.1 hq with hq | hq
    · exact List.mem_append_left _ hq
    · exact List.mem_append_right _ (List.mem_cons_of_mem _ hq)

structure AInv (P : Program) (n : Nat) (ops : Array Oper) (anc : Nat → List Nat) (ks : List (Nat × DD)) (listed : Array Bool) (s : St) : Prop where
  size : listed.size = ops.size
  mem : ∀ i, i < ops.size → (listed.getD i true = false ↔ i ∈ ks.map (·.1))
  lt : ∀ p ∈ ks, p.1 < ops.size
  nodup : (ks.map (·.1)).Nodup
  sorted : ∀ p ∈ ks, ∀ i, i < p.1 → i ∈ ks.map (·.1) → ∃ pre post, ks = pre ++ p :: post ∧ i ∈ pre.map (·.1)
  vd : ∀ p ∈ ks, ∃ o, ops[p.1]? = some o ∧ VD P n ops o p.2
  run : RunD (ks.map (·.2)) s
  nm : ∀ p ∈ ks, p.2.new = true → NM p.2.name s
  chk : Chk anc ks = true
  mute : Mute ks = true
  closed : ∀ i, i < ops.size → listed.getD i true = true → ∀ j ∈ anc i, listed.getD j true = true

/-- what is said of the ancestors is so by the edges -/
def AncOk (ops : Array Oper) (anc : Nat → List Nat) : Prop := ∀ i o, ops[i]? = some o → (∀ e ∈ o.after, Region.binds .any e = true → e.on < i) ∧ ∀ j ∈ anc i, ∃ e ∈ o.after, Region.binds .any e = true ∧ (e.on = j ∨ j ∈ anc e.on)

theorem any_law {P : Program} {K : Ctx} {n : Nat} {ops : Array Oper} {anc : Nat → List Nat} (hanc : AncOk ops anc) {Q : Exit → Act → World → Prop} : ∀ (m : Nat) (ks : List (Nat × DD)) (listed : Array Bool) (s : St) (a : Act) (w : World), ks.length = m → AInv P n ops anc ks listed s → R K n a w s →
    (∀ a w s', Sim (FinD (ks.map (·.2)) s) s' → R K n a w s' → Q .normal a w) → wpAny P .any ops Q m listed a w := by
  intro m
  induction m with
  | zero =>
    intro ks listed s a w hk inv r hQ
    have : ks = [] := List.eq_nil_of_length_eq_zero hk
    subst this
    refine ⟨?_, hQ a w s (Sim.refl _) r⟩
    apply List.eq_nil_iff_forall_not_mem.2
    intro i hi
    obtain ⟨h1, o, ho, _⟩ := mem_ready.1 hi
    have hlt := (Array.getElem?_eq_some_iff.1 ho).1
    have := (inv.mem i hlt).1 h1
    simp at this
  | succ m ih =>
    intro ks listed s a w hk inv r hQ
    refine ⟨fun hnone => ?_, fun i hi => ?_⟩
    · -- the first one is ready
      exfalso
      cases ks with
      | nil => simp at hk
      | cons p l =>
        have hp := inv.lt p (by simp)
        obtain ⟨o, ho, _⟩ := inv.vd p (by simp)
        have hready : p.1 ∈ Region.ready .any ops listed := by
          refine mem_ready.2 ⟨(inv.mem p.1 hp).2 (by simp), o, ho, fun e he hb => ?_⟩
          · have hlt := (hanc p.1 o ho).1 e he hb
            have hlt' : e.on < ops.size := by omega
            cases hg : listed.getD e.on true with
            | true =>
              rw [Array.getD_eq_getD_getElem?] at hg ⊢
              rw [Array.getElem?_eq_getElem (by rw [inv.size]; exact hlt')] at hg ⊢
              simpa using hg
            | false =>
              have hin := (inv.mem e.on hlt').1 hg
              obtain ⟨pre, post, hks, hpre⟩ := inv.sorted p (by simp) e.on hlt hin
              have hnd := inv.nodup
              cases pre with
              | nil => simp at hpre
              | cons q pre =>
                rw [List.cons_append] at hks
                injection hks with h1 h2
                rw [h2] at hnd
                simp at hnd
        rw [hnone] at hready
        cases hready
    · obtain ⟨hi1, o, ho, hedges⟩ := mem_ready.1 hi
      have hlt := (Array.getElem?_eq_some_iff.1 ho).1
      obtain ⟨p, hp, rfl⟩ := List.mem_map.1 ((inv.mem i hlt).1 hi1)
      obtain ⟨pre, post, rfl⟩ := List.append_of_mem hp
      obtain ⟨o', ho', hvd⟩ := inv.vd p hp
      rw [ho] at ho'
      cases ho'
      have hlisted : ∀ j ∈ anc p.1, listed.getD j true = true := by
        intro j hj
        obtain ⟨e, he, hb, hor⟩ := (hanc p.1 o ho).2 j hj
        have hlt2 := (hanc p.1 o ho).1 e he hb
        have hl : listed.getD e.on false = true := hedges e he hb
        have hl' : listed.getD e.on true = true := by
          rw [Array.getD_eq_getD_getElem?] at hl ⊢
          rw [Array.getElem?_eq_getElem (by rw [inv.size]; omega)] at hl ⊢
          simpa using hl
        rcases hor with rfl | hor
        · exact hl'
        · exact inv.closed e.on (by omega) hl' j hor
      obtain ⟨hch, hchk⟩ := Chk_mem inv.chk
      have hind : ∀ y ∈ pre, y.2.indep p.2 = true := by
        intro y hy
        rcases hch y hy with h | h
        · exfalso
          have hyl := hlisted y.1 (by simpa using h)
          have hym := inv.mem y.1 (inv.lt y (by simp [hy]))
          have := hym.2 (by simp only [List.map_append, List.mem_append]; exact .inl (List.mem_map.2 ⟨y, hy, rfl⟩))
          rw [this] at hyl
          cases hyl
        · exact h
      have hrun := inv.run
      rw [List.map_append, List.map_cons] at hrun
      obtain ⟨⟨hneed, hrun'⟩, hsim⟩ := bubble (x := p.2) (post := post.map (·.2)) (pre.map (·.2)) s (fun y hy => by
        obtain ⟨q, hq, rfl⟩ := List.mem_map.1 hy
        exact hind q hq) hrun
      have hstp := hvd K s hneed (inv.nm p hp)
      unfold wpOp
      simp only [ho]
      have cont : ∀ a' w', R K n a' w' (p.2.app s) → wpAny P .any ops Q m (listed.setIfInBounds p.1 true) a' w' := by
        intro a' w' r'
        have hnd := inv.nodup
        have hmem' : ∀ q, q ∈ pre ++ post → q ∈ pre ++ p :: post := fun q hq => by
          rcases List.mem_append.1 hq with h | h
          · exact List.mem_append_left _ h
          · exact List.mem_append_right _ (List.mem_cons_of_mem _ h)
        have hne : ∀ q ∈ pre ++ post, q.1 ≠ p.1 := by
          intro q hq he
          rw [List.map_append, List.map_cons, List.nodup_append] at hnd
          obtain ⟨n1, n2, n3⟩ := hnd
          rcases List.mem_append.1 hq with h | h
          · exact n3 q.1 (List.mem_map.2 ⟨q, h, rfl⟩) p.1 (by simp) he
          · have := (List.nodup_cons.1 n2).1
            exact this (List.mem_map.2 ⟨q, h, he⟩)
        refine ih (pre ++ post) (listed.setIfInBounds p.1 true) (p.2.app s) a' w' (by simp at hk ⊢; omega) ?_ r' ?_
        · refine ⟨by simp [inv.size], fun j hj => ?_, fun q hq => inv.lt q (hmem' q hq), ?_, ?_, fun q hq => inv.vd q (hmem' q hq), by rw [List.map_append]; exact hrun', ?_, hchk, (Mute_mem inv.mute).2, ?_⟩
          · rw [Array.getD_eq_getD_getElem?, Array.getElem?_setIfInBounds]
            by_cases hjp : p.1 = j
            · subst hjp
              rw [if_pos rfl, if_pos (by rw [inv.size]; exact hj)]
              simp only [Option.getD_some, Bool.true_eq_false, false_iff]
              intro hm
              obtain ⟨q, hq, hqe⟩ := List.mem_map.1 hm
              exact hne q hq hqe
            · rw [if_neg hjp, ← Array.getD_eq_getD_getElem?, inv.mem j hj]
              simp only [List.map_append, List.map_cons, List.mem_append, List.mem_cons]
              constructor
              · rintro (h | h | h)
                · exact .inl h
                · exact absurd h.symm hjp
                · exact .inr h
              · rintro (h | h)
                · exact .inl h
                · exact .inr (.inr h)
          · rw [List.map_append] at hnd ⊢
            rw [List.map_cons] at hnd
            exact hnd.sublist (List.Sublist.append_left (List.sublist_cons_self _ _) _)
          · intro q hq j hj hjm
            have hjm' : j ∈ (pre ++ p :: post).map (·.1) := by
              simp only [List.map_append, List.map_cons, List.mem_append, List.mem_cons] at hjm ⊢
              rcases hjm with h | h
              · exact .inl h
              · exact .inr (.inr h)
            obtain ⟨pre2, post2, he, hin⟩ := inv.sorted q (hmem' q hq) j hj hjm'
            have hjne : j ≠ p.1 := by
              intro hjp
              obtain ⟨z, hz, hze⟩ := List.mem_map.1 hjm
              exact hne z hz (hze.trans hjp)
            -- strike p out of the list
            rcases List.append_eq_append_iff.1 he with ⟨mid, h1, h2⟩ | ⟨mid, h1, h2⟩
            · cases mid with
              | nil =>
                simp only [List.nil_append] at h2
                injection h2 with h3 _
                exact absurd (congrArg Prod.fst h3.symm) (hne q hq)
              | cons z mid =>
                rw [List.cons_append] at h2
                injection h2 with h3 h4
                subst h3
                refine ⟨pre ++ mid, post2, by rw [h4]; simp, ?_⟩
                rw [h1] at hin
                simp only [List.map_append, List.map_cons, List.mem_append, List.mem_cons] at hin ⊢
                rcases hin with h | h | h
                · exact .inl h
                · exact absurd h hjne
                · exact .inr h
            · cases mid with
              | nil =>
                simp only [List.nil_append] at h2
                injection h2 with h3 _
                exact absurd (congrArg Prod.fst h3) (hne q hq)
              | cons z mid =>
                rw [List.cons_append] at h2
                injection h2 with h3 h4
                subst h3
                exact ⟨pre2, mid ++ post, by rw [h1]; simp, hin⟩
          · intro q hq hnew
            refine NM.app (inv.nm q (hmem' q hq) hnew) hnew ?_
            rcases List.mem_append.1 hq with h | h
            · have := hind q h
              simp only [DD.indep, Bool.and_eq_true] at this
              exact this.2
            · exact (Mute_mem inv.mute).1 q h
          · intro j hj hjl k hk'
            rw [Array.getD_eq_getD_getElem?, Array.getElem?_setIfInBounds] at hjl ⊢
            by_cases hkp : p.1 = k
            · subst hkp
              rw [if_pos rfl]
              split <;> simp
            · rw [if_neg hkp, ← Array.getD_eq_getD_getElem?]
              by_cases hjp : p.1 = j
              · subst hjp
                exact hlisted k hk'
              · rw [if_neg hjp, ← Array.getD_eq_getD_getElem?] at hjl
                exact inv.closed j hj hjl k hk'
        · intro a2 w2 s2 hs2 r2
          refine hQ a2 w2 s2 ?_ r2
          rw [List.map_append, List.map_cons]
          rw [List.map_append] at hs2
          exact hsim.trans hs2
      have := hstp a w r _ Q cont
      split
      · rename_i hw; rw [if_pos hw] at this; exact .inl this
      · rename_i hw; rw [if_neg hw] at this; exact this

/-- THE LAW: the operations' deeds in the order of the text -/
inductive Deeds (P : Program) (n : Nat) (ops : Array Oper) : List Oper → List DD → Prop
  | nil : Deeds P n ops [] []
  | cons {o : Oper} {l : List Oper} {d : DD} {ds : List DD} (h : VD P n ops o d) (k : Deeds P n ops l ds) : Deeds P n ops (o :: l) (d :: ds)
theorem Deeds.get {P : Program} {n : Nat} {ops : Array Oper} {l : List Oper} {ds : List DD} (h : Deeds P n ops l ds) : l.length = ds.length ∧ ∀ (i : Nat) (d : DD), ds[i]? = some d → ∃ o, l[i]? = some o ∧ VD P n ops o d := by
  induction h with
  | nil => exact ⟨rfl, by simp⟩
  | cons h k ih =>
    refine ⟨by simp [ih.1], fun i d hd => ?_⟩
    cases i with
    | zero => cases hd; exact ⟨_, rfl, h⟩
    | succ i => exact ih.2 i d hd
def number {α : Type} : Nat → List α → List (Nat × α)
  | _, [] => []
  | i, x :: l => (i, x) :: number (i + 1) l
theorem number_snd {α : Type} : ∀ (l : List α) (i : Nat), (number i l).map (·.2) = l
  | [], _ => rfl
  | x :: l, i => by simp [number, number_snd l]
theorem number_fst {α : Type} : ∀ (l : List α) (i : Nat), (number i l).map (·.1) = List.range' i l.length
  | [], _ => rfl
  | x :: l, i => by simp [number, number_fst l, List.range'_succ]
theorem number_mem {α : Type} : ∀ (l : List α) (i : Nat) (p : Nat × α), p ∈ number i l → i ≤ p.1 ∧ l[p.1 - i]? = some p.2
  | [], _, _, h => by simp [number] at h
  | x :: l, i, p, h => by
    rcases List.mem_cons.1 h with rfl | h
    · simp
    · obtain ⟨h1, h2⟩ := number_mem l (i + 1) p h
      exact ⟨by omega, by rw [show p.1 - i = (p.1 - (i + 1)) + 1 by omega, List.getElem?_cons_succ]; exact h2⟩
theorem number_length {α : Type} : ∀ (l : List α) (i : Nat), (number i l).length = l.length
  | [], _ => rfl
  | x :: l, i => by simp [number, number_length l]
def ancOf (t : List (List Nat)) (i : Nat) : List Nat := (t[i]?).getD []
def AncB (ops : Array Oper) (t : List (List Nat)) : Bool := (List.range ops.size).all fun i => match ops[i]? with
  | some o => o.after.all (fun e => !Region.binds .any e || decide (e.on < i)) && (ancOf t i).all fun j => o.after.any fun e => Region.binds .any e && (e.on == j || (ancOf t e.on).contains j)
  | none => true
theorem AncB_ok {ops : Array Oper} {t : List (List Nat)} (h : AncB ops t = true) : AncOk ops (ancOf t) := by
  intro i o ho
  have hi := (Array.getElem?_eq_some_iff.1 ho).1
  have := List.all_eq_true.1 h i (List.mem_range.2 hi)
  rw [ho] at this
  simp only [Bool.and_eq_true] at this
  refine ⟨fun e he hb => ?_, fun j hj => ?_⟩
  · have h1 := Array.all_eq_true_iff_forall_mem.1 this.1 e he
    rw [hb] at h1
    simpa using h1
  · have h1 := List.all_eq_true.1 this.2 j hj
    obtain ⟨e, he, h2⟩ := Array.any_eq_true'.1 h1
    simp only [Bool.and_eq_true, Bool.or_eq_true, beq_iff_eq] at h2
    exact ⟨e, he, h2.1, by simpa using h2.2⟩
theorem T_any {P : Program} {K : Ctx} {n : Nat} {Q : Exit → St → Prop} {s : St} {l : List Oper} {id : Nat} (t : List (List Nat)) (ds : List DD) (s' : St) (hm : P.follows .mixedOrders = true) (hd : Deeds P n l.toArray l ds) (hanc : AncB l.toArray t = true) (hrun : RunD ds s) (hfin : Sim (FinD ds s) s') (hnm : ∀ d ∈ ds, d.new = true → NM d.name s) (hchk : Chk (ancOf t) (number 0 ds) = true) (hmute : Mute (number 0 ds) = true) (hQ : Q .normal s') :
    T P K n (.region id l.toArray true) s Q := by
  intro a w r
  obtain ⟨hl, hget⟩ := hd.get
  refine wp_region_any hm ?_
  have hsz : l.toArray.size = (number 0 ds).length := by rw [number_length, ← hl]; simp
  rw [hsz]
  refine any_law (K := K) (n := n) (AncB_ok hanc) _ (number 0 ds) _ s a _ rfl ?_ ?_ ?_
  · refine ⟨by simp [number_length, hl], fun i hi => ?_, fun p hp => ?_, ?_, ?_, fun p hp => ?_, by rw [number_snd]; exact hrun, fun p hp hnew => ?_, hchk, hmute, ?_⟩
    · rw [number_fst, Array.getD_eq_getD_getElem?]
      simp only [Array.getElem?_replicate, number_length]
      simp only [List.size_toArray] at hi
      rw [if_pos (by omega)]
      simp [List.mem_range'_1]
      omega
    · obtain ⟨_, h2⟩ := number_mem ds 0 p hp
      have := (List.getElem?_eq_some_iff.1 h2).1
      simp
      omega
    · rw [number_fst]; exact List.nodup_range'
    · intro p hp i hi hin
      obtain ⟨pre, post, he⟩ := List.append_of_mem hp
      refine ⟨pre, post, he, ?_⟩
      have h1 := number_fst ds 0
      rw [he, List.map_append, List.map_cons] at h1
      have hpl : p.1 = pre.length := by
        have h2 : ((pre.map (·.1)) ++ p.1 :: post.map (·.1))[pre.length]? = some p.1 := by
          rw [List.getElem?_append_right (by simp)]; simp
        have hlt : pre.length < ds.length := by
          have := congrArg List.length he
          rw [number_length] at this
          simp at this
          omega
        rw [h1, List.getElem?_range' hlt] at h2
        simp at h2
        omega
      have h3 : ((pre.map (·.1)) ++ p.1 :: post.map (·.1))[i]? = some i := by
        have hlt : i < ds.length := by
          rw [number_fst] at hin
          simp [List.mem_range'_1] at hin
          omega
        rw [h1, List.getElem?_range' hlt]
        simp
      rw [List.getElem?_append_left (by simp; omega)] at h3
      exact List.mem_of_getElem? h3
    · obtain ⟨_, h2⟩ := number_mem ds 0 p hp
      obtain ⟨o, h3, h4⟩ := hget _ _ h2
      exact ⟨o, by simpa using h3, h4⟩
    · obtain ⟨_, h2⟩ := number_mem ds 0 p hp
      exact hnm p.2 (List.mem_of_getElem? h2) hnew
    · intro i hi hlist
      rw [Array.getD_eq_getD_getElem?] at hlist
      simp only [Array.getElem?_replicate, number_length] at hlist
      simp only [List.size_toArray] at hi
      rw [if_pos (by omega)] at hlist
      simp at hlist
  · obtain ⟨g, r⟩ := r
    exact ⟨g, r.ext (Ext.drew w)⟩
  · intro a2 w2 s2 hs2 r2
    rw [number_snd] at hs2
    exact ⟨s', r2.sim (hs2.symm.trans hfin), hQ⟩

def opTmps : List Operand → List Nat
  | [] => []
  | .tmp t :: l => t :: opTmps l
  | _ :: l => opTmps l
def SC.names0 : SC → List Nat
  | .box d _ => [d]
  | .own d => [d]
  | .row d _ => [d]
  | .win d _ _ => [d]
  | .sub d _ _ _ => [d]
  | .elt d _ _ _ => [d]
  | .slc _ tag _ _ => match tag with
    | t + 2 => [t]
    | _ => []
  | .clo _ cs => cs.flatMap fun
    | .box d _ => [d]
    | .own d => [d]
    | _ => []
  | _ => []
def SC.names1 : SC → List Nat
  | .own d => [d]
  | .row d _ => [d]
  | .win d _ _ => [d]
  | .sub d _ _ _ => [d]
  | _ => []
def SV.names (f : SC → List Nat) : SV → List Nat
  | .c x => f x
  | .agg cs => cs.flatMap f
  | .tup vs => vs.flatMap fun x => x.2.flatMap f
def opdNames (s : St) (f : SC → List Nat) : List Operand → List Nat
  | [] => []
  | x :: l => (match opd s x with | some v => v.names f | none => []) ++ opdNames s f l
/-- the resources that an operation looks into -/
def opNames (s : St) : Op → List Nat
  | .load _ x => opdNames s SC.names0 [x]
  | .store _ p _ => opdNames s SC.names0 [p]
  | .nilCheck x => opdNames s SC.names0 [x]
  | .call c => opdNames s SC.names0 c.operands.toList
  | .indexAddr _ x _ => opdNames s SC.names1 [x]
  | .slice _ x _ _ _ => opdNames s SC.names0 [x]
  | .lookup _ x _ _ => opdNames s SC.names0 [x]
  | .mapUpdate _ x _ _ => opdNames s SC.names0 [x]
  | .insert _ x _ _ => opdNames s SC.names0 [x]
  | _ => []
def pickN {α : Type} (l : List (Nat × α)) (ks : List Nat) : List (Nat × α) := l.filter fun p => ks.contains p.1
theorem look_pickN {α : Type} (ks : List Nat) : ∀ (l : List (Nat × α)) (k : Nat) (v : α), look (pickN l ks) k = some v → look l k = some v
  | [], k, v, h => by simp [pickN, look] at h
  | (a, x) :: l, k, v, h => by
    simp only [pickN, List.filter_cons] at h
    split at h
    · rw [look_cons] at h ⊢
      split at h
      · rename_i hk; rw [if_pos hk]; exact h
      · rename_i hk; rw [if_neg hk]; exact look_pickN ks l k v h
    · rename_i hq
      have h1 := look_pickN ks l k v h
      rw [look_cons]
      split
      · rename_i hk
        subst hk
        exfalso
        have := look_mem h
        simp only [List.mem_filter] at this
        exact hq this.2
      · exact h1
def needOf (ops : Array Oper) (o : Oper) (s : St) : St :=
  { tmps := pickN s.tmps (opTmps o.op.operands.toList ++ (match o.guard with | some (j, _) => (match ops[j]? with | some oj => oj.dst.toList | none => []) | none => [])), hp := pickN s.hp (opNames s o.op) }
theorem need_sub (ops : Array Oper) (o : Oper) (s : St) : Sub (needOf ops o s) s := ⟨fun k v h => look_pickN _ _ k v h, fun k v h => look_pickN _ _ k v h⟩

section
variable {P : Program} {n : Nat} {ops : Array Oper} {o : Oper} {need : St}
theorem vd_grow (v : SV) (hg : guardOf ops o need = some true) (hd : dstOk n o = true) (hp : GrowOp P o need v) : VD P n ops o ⟨need, o.dst, v, none, false, none⟩ :=
  fun _ _ hs _ => S_grow v (hs.guard hg) hd (hs.grow hp)
theorem vd_skip (hg : guardOf ops o need = some false) (hd : dstOk n o = true) : VD P n ops o ⟨need, o.dst, .tup [], none, false, none⟩ :=
  fun _ _ hs _ => S_skip (hs.guard hg) hd
theorem Sub.lookB {s s' : St} (h : Sub s s') {d : Nat} {cs : List SC} (hl : s.lookB d = some cs) : s'.lookB d = some cs := by
  have := h.h d _ (lookB_some hl)
  unfold St.lookB
  rw [this]
/-- what an operation does, reckoned -/
def deedS (P : Program) (n : Nat) (ops : Array Oper) (o : Oper) (s : St) : Option DD :=
  let need := needOf ops o s
  match guardOf ops o need with
  | some false => if dstOk n o then some ⟨need, o.dst, .tup [], none, false, none⟩ else none
  | some true => match o.op with
    | .box _ x => match o.dst, opd need x with
      | some d, some v => match cellsOf v with
        | some cs => if decide (d < n) && decide (d < 1000000) && cs.all (SC.say (· != d)) then some ⟨need, some d, .c (.box d 0), some (d, .box cs), true, none⟩ else none
        | none => none
      | _, _ => none
    | .alloc t => match o.dst, (P.info? t).bind (·.zero) with
      | some d, some z => if decide (d < n) && decide (d < 1000000) then some ⟨need, some d, .c (.box d 0), some (d, .box (z.cells.toList.map SC.lit)), true, none⟩ else none
      | _, _ => none
    | .store t p x => match o.dst, opd need p, opd need x with
      | none, some (.c (.box d off)), some v => match cellsOf v, need.lookB d, P.info? t with
        | some ds, some cs, some i => if decide (i.size = ds.length) && ds.all SC.one && decide (off + ds.length ≤ cs.length) then some ⟨need, none, .tup [], some (d, .box (over cs off ds)), false, none⟩ else none
        | _, _, _ => none
      | _, _, _ => none
    | _ => match sop P need o.op with
      | some v => if dstOk n o then some ⟨need, o.dst, v, none, false, none⟩ else none
      | none => none
  | none => none
theorem deedS_ok {s : St} {d : DD} (h : deedS P n ops o s = some d) : VD P n ops o d ∧ d.need = needOf ops o s := by
  unfold deedS at h
  simp only at h
  generalize needOf ops o s = need at h
  split at h
  · rename_i hg
    split at h
    · rename_i hd; cases h; exact ⟨vd_skip hg hd, rfl⟩
    · cases h
  · rename_i hg
    split at h
    · rename_i t x ho
      split at h
      · rename_i d' v hd hx
        split at h
        · rename_i cs hcs
          split at h
          · rename_i hc
            simp only [Bool.and_eq_true, decide_eq_true_eq] at hc
            cases h
            exact ⟨fun K s hs hn => S_box d' ho hd (hs.guard hg) hc.1.1 hc.1.2 (hs.opd hx) hcs (hn rfl) hc.2, rfl⟩
          · cases h
        · cases h
      · cases h
    · rename_i t ho
      split at h
      · rename_i d' z hd hz
        split at h
        · rename_i hc
          simp only [Bool.and_eq_true, decide_eq_true_eq] at hc
          cases h
          exact ⟨fun K s hs hn => S_alloc d' _ ho hd (hs.guard hg) hc.1 hc.2 hz rfl (hn rfl), rfl⟩
        · cases h
      · cases h
    · rename_i t p x ho
      split at h
      · rename_i d' off v hd hp hx
        split at h
        · rename_i ds cs i hds hcs hi
          split at h
          · rename_i hc
            simp only [Bool.and_eq_true, decide_eq_true_eq] at hc
            cases h
            exact ⟨fun K s hs _ => S_store d' off cs ds ho hd (hs.guard hg) (hs.opd hp) (hs.opd hx) hds (hs.lookB hcs) (by rw [hi]; exact congrArg some hc.1.1) hc.1.2 hc.2, rfl⟩
          · cases h
        · cases h
      · cases h
    · split at h
      · rename_i v hv
        split at h
        · rename_i hd; cases h; exact ⟨vd_grow v hg hd (sop_ok hv).grow, rfl⟩
        · cases h
      · cases h
  · cases h
end

inductive Dr where
  | mk (ops : Array Oper) (l : List Oper) (acc : List DD) (s0 : St) (fs : List Fr) (s : St)
  | bad
/-- what comes before an operation, by the edges -/
def nub (l : List Nat) : List Nat := l.foldr (fun x r => if r.contains x then r else x :: r) []
def ancL (ops : Array Oper) : List (List Nat) := ops.toList.foldl (fun t o => t ++ [nub (o.after.toList.flatMap fun e => if Region.binds .any e then e.on :: (t[e.on]?).getD [] else [])]) []
def drawOk (ops : Array Oper) (s0 : St) (ds : List DD) : Bool :=
  AncB ops (ancL ops) && Chk (ancOf (ancL ops)) (number 0 ds) && Mute (number 0 ds) && ds.all fun d => !d.new || s0.noname d.name (some d.name)
def TD (P : Program) (K : Ctx) (n : Nat) (D : Dr) (Q : Exit → St → Prop) : Prop := match D with
  | .mk ops l acc s0 fs s => ∃ ds, Deeds P n ops l ds ∧ RunD ds s ∧ drawOk ops s0 (acc.reverse ++ ds) = true ∧ QS P K n fs Q .normal (FinD ds s)
  | .bad => False
def stepD (P : Program) (n : Nat) : Dr → Dr
  | .mk ops (o :: l) acc s0 fs s => match deedS P n ops o s with
    | some d => .mk ops l (d :: acc) s0 fs (d.app s)
    | none => .bad
  | _ => .bad
def goD (P : Program) (n : Nat) : Nat → Dr → Dr
  | 0, D => D
  | k + 1, D => goD P n k (stepD P n D)
def Cfg.draw : Cfg → Dr
  | .mk (.code (.region _ ops true) :: fs) .normal s => .mk ops ops.toList [] s fs s
  | _ => .bad
def Dr.done : Dr → Cfg
  | .mk _ [] _ _ fs s => .mk fs .normal s
  | _ => .bad
def Dr.ok : Dr → Bool
  | .mk ops [] acc s0 _ _ => drawOk ops s0 acc.reverse
  | _ => false
def Dr.op : Dr → Option (Array Oper × Oper)
  | .mk ops (o :: _) _ _ _ _ => some (ops, o)
  | _ => none
def Dr.need : Dr → St
  | .mk ops (o :: _) _ _ _ s => needOf ops o s
  | _ => ⟨[], []⟩
def Dr.push (D : Dr) (d : DD) : Dr := match D with
  | .mk ops (_ :: l) acc s0 fs s => .mk ops l (d :: acc) s0 fs (d.app s)
  | _ => .bad
section
variable {P : Program} {K : Ctx} {n : Nat} {Q : Exit → St → Prop} {C : Cfg} {D : Dr}
theorem TS_draw (hm : P.follows .mixedOrders = true) (k : TD P K n C.draw Q) : TS P K n C Q := by
  unfold Cfg.draw at k
  split at k
  · rename_i id ops fs s
    obtain ⟨ds, h1, h2, h3, h4⟩ := k
    simp only [drawOk, Bool.and_eq_true, List.reverse_nil, List.nil_append] at h3
    obtain ⟨⟨⟨h5, h6⟩, h7⟩, h8⟩ := h3
    have := T_any (P := P) (K := K) (n := n) (Q := QS P K n fs Q) (s := s) (l := ops.toList) (id := id) (ancL ops) ds (FinD ds s) hm h1 h5 h2 (Sim.refl _) (fun d hd hn => by
      have := List.all_eq_true.1 h8 d hd
      simp only [hn, Bool.not_true, Bool.false_or] at this
      exact noname_spec this) h6 h7 h4
    exact this
  · exact k.elim
theorem push_ok {ops : Array Oper} {o : Oper} {d : DD} (ho : D.op = some (ops, o)) (hv : VD P n ops o d) (hn : d.need = D.need) (k : TD P K n (D.push d) Q) : TD P K n D Q := by
  unfold Dr.op at ho
  split at ho
  · cases ho
    rename_i l acc s0 fs s
    obtain ⟨ds, h1, h2, h3, h4⟩ := k
    refine ⟨d :: ds, .cons hv h1, ⟨by rw [hn]; exact need_sub _ _ _, h2⟩, ?_, h4⟩
    rw [List.reverse_cons, List.append_assoc] at h3
    exact h3
  · cases ho
theorem stepD_ok (h : TD P K n (stepD P n D) Q) : TD P K n D Q := by
  unfold stepD at h
  split at h
  · rename_i ops o l acc s0 fs s
    split at h
    · rename_i d hd
      obtain ⟨h1, h2⟩ := deedS_ok hd
      exact push_ok (D := .mk ops (o :: l) acc s0 fs s) rfl h1 h2 h
    · exact h.elim
  · exact h.elim
theorem TD_go : ∀ (k : Nat) {D : Dr}, TD P K n (goD P n k D) Q → TD P K n D Q
  | 0, _, h => h
  | k + 1, _, h => stepD_ok (TD_go k h)
theorem TD_end (hk : D.ok = true) (k : TS P K n D.done Q) : TD P K n D Q := by
  unfold Dr.done at k
  split at k
  · exact ⟨[], .nil, trivial, by simpa [Dr.ok] using hk, k⟩
  · exact k.elim
def Dr.go1 (n : Nat) (D : Dr) : Bool := match D.op with
  | some (os, o) => (match guardOf os o D.need with | some true => true | _ => false) && dstOk n o
  | none => false
def Dr.dst (D : Dr) : Option Tmp := match D.op with
  | some (_, o) => o.dst
  | none => none
theorem go1D_spec (h : D.go1 n = true) : ∃ os o, D.op = some (os, o) ∧ guardOf os o D.need = some true ∧ dstOk n o = true ∧ D.dst = o.dst := by
  unfold Dr.go1 at h
  split at h
  · rename_i os o ho
    simp only [Bool.and_eq_true] at h
    refine ⟨os, o, ho, ?_, h.2, by simp [Dr.dst, ho]⟩
    have h1 := h.1
    split at h1
    · assumption
    · cases h1
  · cases h
def Dr.ret (D : Dr) (v : SV) : Dr := D.push ⟨D.need, D.dst, v, none, false, none⟩
theorem TD_val (v : SV) (hg : D.go1 n = true) (hp : ∀ os o, D.op = some (os, o) → GrowOp P o D.need v) (k : TD P K n (D.ret v) Q) : TD P K n D Q := by
  obtain ⟨os, o, ho, h1, h2, h3⟩ := go1D_spec hg
  unfold Dr.ret at k
  rw [h3] at k
  exact push_ok ho (vd_grow v h1 h2 (hp os o ho)) rfl k
def Dr.with1 {β : Type} (D : Dr) (f : St → Oper → Option β) : Option β := match D.op with
  | some (_, o) => f D.need o
  | none => none
theorem with1D_op {β : Type} {f : St → Oper → Option β} {b : β} (h : D.with1 f = some b) {os : Array Oper} {o : Oper} (ho : D.op = some (os, o)) : f D.need o = some b := by
  unfold Dr.with1 at h
  rw [ho] at h
  exact h
variable {α : Type}
theorem TD_idx (f : α → List SC) {l : List α} {i : Int} {e : α} (he : idx l i = some e) (h : D.with1 (idxArgs P) = some (l.map f, i)) (hg : D.go1 n = true) (k : TD P K n (D.ret (.c (.ref (f e)))) Q) : TD P K n D Q :=
  TD_val _ hg (fun _ _ ho => grow_idx he (with1D_op h ho)) k
theorem TD_sub (f : α → List SC) (sz : Nat) {l l' : List α} {a b : Int} (he : subO l a b = some l') (h : D.with1 (subArgs P) = some (sz, l.map f, a, b)) (hg : D.go1 n = true) (k : TD P K n (D.ret (.c (.slc sz 0 l'.length (l'.map f)))) Q) : TD P K n D Q :=
  TD_val _ hg (fun _ _ ho => grow_subS he (with1D_op h ho)) k
theorem TD_num {op : BinOp} {k k' : IntKind} {m i : Int} {v : SV} {p : Prop} (hp : p) (hv : intBinC op k m i = some (v, p)) (hk : op = .shl ∨ op = .shr ∨ k' = k) (h : D.with1 (chkArgs P) = some (op, k, k', m, i)) (hg : D.go1 n = true) (kk : TD P K n (D.ret v) Q) : TD P K n D Q := by
  refine TD_val v hg (fun os o ho => ?_) kk
  have h1 := with1D_op h ho
  unfold chkArgs at h1
  split at h1
  · rename_i op' t x y t' ho'
    split at h1
    · rename_i k1 m1 k2 i1 hx hy
      cases h1
      exact (pure_intC m i hk ho' hx hy hv hp).grow
    · cases h1
  · cases h1
theorem TD_know (_t : Nat) {e b : Bool} (hb : e = b) (_hh : True) (hg : D.go1 n = true) (h : D.with1 (fun s o => sop P s o.op) = some (.c (.lit (.bool e)))) (k : TD P K n (D.ret (.c (.lit (.bool b)))) Q) : TD P K n D Q := by
  subst hb
  exact TD_val _ hg (fun _ _ ho => (sop_ok (with1D_op h ho)).grow) k
def Dr.callee (D : Dr) (kss : List (List Nat)) : Option (FuncId × List SV) := match D.op with
  | some (_, o) => match calleeOf D.need o with
    | some (f, vs) => some (f, castArgs kss vs)
    | none => none
  | none => none
theorem calleeD_op {kss : List (List Nat)} {f : FuncId} {A : List SV} (h : D.callee kss = some (f, A)) {os : Array Oper} {o : Oper} (ho : D.op = some (os, o)) : ∃ vs, calleeOf D.need o = some (f, vs) ∧ castArgs kss vs = A := by
  unfold Dr.callee at h
  rw [ho] at h
  simp only at h
  split at h
  · rename_i f' vs hv; cases h; exact ⟨vs, hv, rfl⟩
  · cases h
theorem TD_call {f : FuncId} {A : List SV} {r : SV} (kss : List (List Nat)) (hp : Con P f A [] r []) (hc : D.callee kss = some (f, A)) (hg : (D.go1 n && hasBody P f && r.every SC.closed) = true) (k : TD P K n (D.ret r) Q) : TD P K n D Q := by
  simp only [Bool.and_eq_true] at hg
  refine TD_val r hg.1.1 (fun os o ho => ?_) k
  obtain ⟨vs, h1, h2⟩ := calleeD_op hc ho
  exact grow_con kss h1 hg.1.2 h2 hg.2 hp
theorem argsS_sub {s s' : St} (h : Sub s s') : ∀ (l : List Operand) (r : List SV), argsS s l = some r → argsS s' l = some r
  | [], r, hr => hr
  | x :: l, r, hr => by
    simp only [argsS] at hr ⊢
    split at hr
    · rename_i v r' hv hr'
      rw [h.opd hv, argsS_sub h l r' hr']
      exact hr
    · cases hr
theorem Sub.callee {s s' : St} (h : Sub s s') {o : Oper} {f : FuncId} {vs : List SV} (hc : calleeOf s o = some (f, vs)) : calleeOf s' o = some (f, vs) := by
  unfold calleeOf at hc ⊢
  split at hc
  · rename_i fo xs ts ho
    try rw [ho]
    try simp only
    split at hc
    · rename_i fv vs' hfo hvs
      rw [h.opd hfo, argsS_sub h _ _ hvs]
      exact hc
    · cases hc
  · cases hc
theorem ren0_closed {f : Nat → Nat} {x : SC} (h : x.say0 (fun _ => false) = true) : x.ren0 f = x := by
  cases x with
  | slc s tag n xs =>
    rcases tag with _ | _ | t
    · rfl
    · rfl
    · simp [SC.say0] at h
  | lit v => rfl
  | ref cs => rfl
  | clo c cs => rfl
  | box d off => simp [SC.say0] at h
  | own d => simp [SC.say0] at h
  | row d n => simp [SC.say0] at h
  | win d o n => simp [SC.say0] at h
  | sub d o n m => simp [SC.say0] at h
  | elt d o n m => simp [SC.say0] at h
  | ex d => simp [SC.say0] at h
  | any => rfl
theorem ren_closed {f : Nat → Nat} {x : SC} (h : x.closed = true) : x.ren f = x := by
  cases x with
  | clo c cs =>
    simp only [SC.ren]
    congr 1
    refine (List.map_congr_left (fun y hy => ren0_closed (List.all_eq_true.1 h y hy))).trans (List.map_id' _)
  | lit v => rfl
  | ref cs => rfl
  | slc s tag n xs => exact ren0_closed (x := .slc s tag n xs) h
  | box d off => simp [SC.closed, SC.say, SC.say0] at h
  | own d => simp [SC.closed, SC.say, SC.say0] at h
  | row d n => simp [SC.closed, SC.say, SC.say0] at h
  | win d o n => simp [SC.closed, SC.say, SC.say0] at h
  | sub d o n m => simp [SC.closed, SC.say, SC.say0] at h
  | elt d o n m => simp [SC.closed, SC.say, SC.say0] at h
  | ex d => simp [SC.closed, SC.say, SC.say0] at h
  | any => rfl
theorem renV_closed {f : Nat → Nat} {v : SV} (h : v.every SC.closed = true) : v.map (SC.ren f) = v := by
  cases v with
  | c x => simp only [SV.map]; rw [ren_closed h]
  | agg cs => simp only [SV.map]; congr 1; exact (List.map_congr_left (fun y hy => ren_closed (List.all_eq_true.1 h y hy))).trans (List.map_id' _)
  | tup vs =>
    simp only [SV.map]
    congr 1
    refine (List.map_congr_left (fun y hy => ?_)).trans (List.map_id' _)
    have h1 := List.all_eq_true.1 h y hy
    have : y.2.map (SC.ren f) = y.2 := (List.map_congr_left (fun z hz => ren_closed (List.all_eq_true.1 h1 z hz))).trans (List.map_id' _)
    rw [this]
theorem say_mono {p q : Nat → Bool} (h : ∀ d, p d = true → q d = true) {x : SC} (hx : x.say p = true) : x.say q = true := by
  have h0 : ∀ y : SC, y.say0 p = true → y.say0 q = true := by
    intro y hy
    cases y with
    | slc s tag n xs =>
      rcases tag with _ | _ | t
      · rfl
      · rfl
      · exact h t hy
    | lit v => rfl
    | ref cs => rfl
    | clo c cs => rfl
    | box d off => exact h d hy
    | own d => exact h d hy
    | row d n => exact h d hy
    | win d o n => exact h d hy
    | sub d o n m => exact h d hy
    | elt d o n m => exact h d hy
    | ex d => exact h d hy
    | any => rfl
  cases x with
  | clo c cs => exact List.all_eq_true.2 (fun y hy => h0 y (List.all_eq_true.1 hx y hy))
  | lit v => rfl
  | ref cs => rfl
  | slc s tag n xs => exact h0 (.slc s tag n xs) hx
  | box d off => exact h0 (.box d off) hx
  | own d => exact h0 (.own d) hx
  | row d n => exact h0 (.row d n) hx
  | win d o n => exact h0 (.win d o n) hx
  | sub d o n m => exact h0 (.sub d o n m) hx
  | elt d o n m => exact h0 (.elt d o n m) hx
  | ex d => exact h0 (.ex d) hx
  | any => rfl
theorem every_mono {p q : SC → Bool} (h : ∀ x, p x = true → q x = true) {v : SV} (hv : v.every p = true) : v.every q = true := by
  cases v with
  | c x => exact h x hv
  | agg cs => exact List.all_eq_true.2 (fun y hy => h y (List.all_eq_true.1 hv y hy))
  | tup vs => exact List.all_eq_true.2 (fun x hx => List.all_eq_true.2 (fun y hy => h y (List.all_eq_true.1 (List.all_eq_true.1 hv x hx) y hy)))
theorem everyR_true (r : Res) : r.every (SC.say fun d => (look ([] : List (Nat × Nat)) d).isNone) = true := by
  cases r <;> simp [Res.every, look, SC.say_true]
/-- a call with a variable behind a pointer -/
theorem vd_con {ops : Array Oper} {o : Oper} {need : St} {f : FuncId} {vs A : List SV} {r : SV} (kss : List (List Nat)) (d off : Nat) (csD cs cs' : List SC) (hgd : guardOf ops o need = some true) (hd : dstOk n o = true) (hc : calleeOf need o = some (f, vs)) (hb : hasBody P f = true) (hargs : castArgs kss vs = A.map (renV d off)) (hok : A.all SV.okP = true)
    (hl : look need.hp d = some (.box csD)) (hcl : cs.all SC.closed = true) (hcl' : cs'.all SC.closed = true) (hw : (csD.drop off).take cs.length = cs) (hlen : cs'.length = cs.length) (hsz : off + cs.length ≤ csD.length) (hr : r.every SC.closed = true) (hp : Con P f A [(1000000, .box cs)] r [(1000000, .box cs')]) :
    VD P n ops o ⟨need, o.dst, r, some (d, .box (over csD off cs')), false, none⟩ := by
  intro K s hs _
  have hN : newsOk s [(1000000, .box cs')] r [] o.dst = true := by
    simp only [newsOk, List.all_nil, Bool.true_and, Bool.and_eq_true, List.all_eq_true]
    refine ⟨⟨⟨fun q _ => ?_, fun q _ => everyR_true q.2⟩, every_mono (fun x hx => say_mono (fun d h => by cases h) hx) hr⟩, fun q hq => ?_⟩
    · simp only [Bool.or_eq_true]
      refine .inr ?_
      have : (fun d => (look ([] : List (Nat × Nat)) d).isNone) = fun _ => true := by funext d; rfl
      rw [this]
      cases q.2 <;> simp [SV.every, SC.say_true]
    · simp only [List.mem_singleton] at hq
      subst hq
      rfl
  have := S_con (P := P) (K := K) (n := n) (ops := ops) (o := o) (s := s) (h := [(1000000, .box cs)]) kss [] (some (d, off)) (hs.guard hgd) hd (hs.callee hc) hb hargs hok ⟨csD, cs, cs', hs.h _ _ hl, rfl, rfl, hcl, hcl', hw, hlen, hsz, rfl⟩ hN hp
  refine this.sim ?_
  have e1 : (s.after [(1000000, .box cs')] r [] (some (d, off)) o.dst) = (s.setR d (.box (over csD off cs'))).put o.dst r := by
    simp only [St.after, newsHp, hpAfter, look_cons, if_true, hs.h _ _ hl, renV_closed hr, St.setR]
  rw [e1]
  exact Sim.refl _
theorem TD_con {f : FuncId} {A : List SV} {r : SV} {_h _h' : Hp} (kss : List (List Nat)) (d off : Nat) (csD cs cs' : List SC) (hp : Con P f A [(1000000, .box cs)] r [(1000000, .box cs')]) (hc : D.callee kss = some (f, A.map (renV d off))) (hl : look D.need.hp d = some (.box csD)) (hw : (csD.drop off).take cs.length = cs) (hg : (D.go1 n && hasBody P f && A.all SV.okP && cs.all SC.closed && cs'.all SC.closed && decide (cs'.length = cs.length) && decide (off + cs.length ≤ csD.length) && r.every SC.closed) = true)
    (k : TD P K n (D.push ⟨D.need, D.dst, r, some (d, .box (over csD off cs')), false, none⟩) Q) : TD P K n D Q := by
  simp only [Bool.and_eq_true, decide_eq_true_eq] at hg
  obtain ⟨⟨⟨⟨⟨⟨⟨g1, g2⟩, g3⟩, g4⟩, g5⟩, g6⟩, g7⟩, g8⟩ := hg
  obtain ⟨os, o, ho, h1, h2, h3⟩ := go1D_spec g1
  obtain ⟨vs, h4, h5⟩ := calleeD_op hc ho
  rw [h3] at k
  exact push_ok ho (vd_con kss d off csD cs cs' h1 h2 h4 g2 h5 g3 hl g4 g5 hw g6 g7 g8 hp) rfl k
end
end
section
open Go.RowKit

def ghostL (l : List (Nat × SV)) : List (Nat × SV) := l.map fun p => (p.1 + 2000000, p.2)
def unghost : List (Nat × SV) → List (Nat × SV)
  | [] => []
  | p :: l => if p.1 < 2000000 then unghost l else (p.1 - 2000000, p.2) :: unghost l
theorem look_unghost : ∀ (l : List (Nat × SV)) (t : Nat), look (unghost l) t = look l (t + 2000000)
  | [], t => rfl
  | p :: l, t => by
    obtain ⟨k, v⟩ := p
    simp only [unghost]
    split
    · rename_i h
      rw [look_unghost l t, look_cons, if_neg (by omega)]
    · rename_i h
      rw [look_cons, look_cons, look_unghost l t]
      by_cases hk : k = t + 2000000
      · rw [if_pos hk, if_pos (by omega)]
      · rw [if_neg hk, if_neg (by omega)]
theorem look_append {α : Type} : ∀ (l l' : List (Nat × α)) (t : Nat) (v : α), look (l ++ l') t = some v → look l t = some v ∨ look l' t = some v
  | [], _, _, _, h => .inr h
  | (k, x) :: l, l', t, v, h => by
    rw [List.cons_append, look_cons] at h
    rw [look_cons]
    split at h
    · rename_i hk; rw [if_pos hk]; exact .inl h
    · rename_i hk; rw [if_neg hk]; exact look_append l l' t v h
theorem look_ghostL : ∀ (l : List (Nat × SV)) (t : Nat) (v : SV), look (ghostL l) t = some v → 2000000 ≤ t ∧ look l (t - 2000000) = some v
  | [], t, v, h => by simp [ghostL, look] at h
  | (k, x) :: l, t, v, h => by
    simp only [ghostL, List.map_cons, look_cons] at h
    split at h
    · rename_i hk; subst hk; cases h; exact ⟨by omega, by rw [look_cons, if_pos (by omega)]⟩
    · rename_i hk
      have := look_ghostL l t v h
      exact ⟨this.1, by rw [look_cons, if_neg (by omega)]; exact this.2⟩

def Ctx.wait (K : Ctx) (gh : Nat → Option Value) : Ctx := ⟨K.w0, K.may, K.rd0, K.pos0, gh, K.ok⟩
theorem slot_wait (K : Ctx) (f : Nat → Option Value) (a : Act) (t : Nat) (h : 2000000 ≤ t) : slotAt (K.wait f) a t = f (t - 2000000) := by
  rw [slotAt, if_neg (Nat.not_lt.2 h)]; rfl
section
variable {P : Program} {K : Ctx} {n : Nat} {Q : Exit → St → Prop} {C : Cfg}
def inlQ (P : Program) (K : Ctx) (n : Nat) (C : Cfg) (rs : List ResultVar) (Q : Exit → St → Prop) : Exit → St → Prop
  | .normal, s => ∃ xs r, resL P s [] rs = some xs ∧ resV xs = some r ∧ TS P K n (C.next (St.put ⟨unghost s.tmps, s.hp⟩ C.dst r)) Q
  | .ret, s => ∃ xs r, resL P s [] rs = some xs ∧ resV xs = some r ∧ TS P K n (C.next (St.put ⟨unghost s.tmps, s.hp⟩ C.dst r)) Q
  | _, _ => False
theorem TS_inline {f : FuncId} {A : List SV} {fn : Func} {c : Code} (m : Nat) (hf : P.funcs[f]? = some fn) (hb : fn.body = some c) (hn : fn.ntmps = m) (hc : C.callee [] = some (f, A)) (hg : (C.go1 n && hasBody P f && decide (A.length ≤ m ∧ m ≤ 2000000)) = true)
    (k : ∀ K', TS P K' m (.mk [.code c] .normal ⟨initT 0 A ++ ghostL C.st.tmps, C.st.hp⟩) (inlQ P K n C fn.results.toList Q)) : TS P K n C Q := by
  simp only [Bool.and_eq_true, decide_eq_true_eq] at hg
  obtain ⟨⟨g1, g2⟩, hl, hfew⟩ := hg
  obtain ⟨os, o, ho, h1, h2, h3⟩ := go1_spec g1
  obtain ⟨vs, h4, h5⟩ := callee_op hc ho
  have hvs : vs = A := by cases vs <;> simpa [castArgs] using h5
  subst hvs
  have hC : ∃ l fs s, C = .mk (.ops os (o :: l) :: fs) .normal s := by
    unfold Cfg.op at ho
    split at ho
    · cases ho; exact ⟨_, _, _, rfl⟩
    · cases ho
  obtain ⟨l, fs, s, rfl⟩ := hC
  simp only [Cfg.st, h3] at *
  intro a w r0
  obtain ⟨g, r⟩ := r0
  refine wpList_step fun K' hK => ?_
  have hw := guard_ok (a := a) h1 (fun t v ht hv => let ⟨u, h1, h2⟩ := r.view.tmps t v ht hv; ⟨u, _, _, h1, h2⟩)
  rw [if_pos hw]
  obtain ⟨us, q1, q2, q3⟩ := callee_spec h4 g2 (r.view.o o)
  unfold Oper.wp
  rw [q3]
  simp only [Oper.upon]
  have hR : RG (K.wait (slotAt K a)) g m { tmps := us ++ Array.replicate (fn.ntmps - us.size) undef, defers := [] } w ⟨initT 0 vs ++ ghostL s.tmps, s.hp⟩ := by
    refine ⟨rfl, by simp; omega, hfew, ⟨r.hg.keep, r.hg.holds, r.hg.may, r.hg.dis, r.hg.fix, r.hg.new⟩, fun t v hv => ?_⟩
    rcases look_append _ _ _ _ hv with hv | hv
    · obtain ⟨_, h2⟩ := look_initT vs 0 t v hv
      obtain ⟨u, h3, h4⟩ := q2 (t - 0) v h2
      simp only [Nat.sub_zero] at h3
      refine ⟨u, ?_, h4⟩
      have htn := (Array.getElem?_eq_some_iff.1 h3).1
      rw [slotAt, if_pos (by omega)]
      rw [Array.getElem?_append_left htn]
      exact h3
    · obtain ⟨k1, k2⟩ := look_ghostL _ _ _ hv
      obtain ⟨u, k3, k4⟩ := r.tmps _ _ k2
      refine ⟨u, ?_, k4⟩
      rw [slot_wait _ _ _ _ k1]
      exact k3
  refine calls_of_wp hf hb (wp_mono (k _ _ w ⟨g, hR⟩) fun e a' w' hq => ?_)
  obtain ⟨s', ⟨g', r'⟩, q⟩ := hq
  have fin : (∃ xs rr, resL P s' [] fn.results.toList = some xs ∧ resV xs = some rr ∧ TS P K n (.mk (.ops os l :: fs) .normal (St.put ⟨unghost s'.tmps, s'.hp⟩ o.dst rr)) Q) → a'.defers = [] ∧ ∃ v, (results fn a'.tmps).run P w' = .ok v w' ∧ K' (a.put o.dst v) w' := by
    rintro ⟨xs, rr, e1, e2, e3⟩
    obtain ⟨u, e4, e5⟩ := run_results r'.view e1 e2
    refine ⟨r'.defers, u, e4, hK _ _ (e3 _ _ ⟨g', RG.put (K := K) (s := ⟨unghost s'.tmps, s'.hp⟩) ⟨r.defers, r.size, r.few, ⟨r'.hg.keep, r'.hg.holds, r'.hg.may, r'.hg.dis, r'.hg.fix, r'.hg.new⟩, fun t v hv => ?_⟩ o.dst (dstOk_spec h2) e5⟩)⟩
    simp only at hv
    rw [look_unghost] at hv
    obtain ⟨u', k1, k2⟩ := r'.tmps _ _ hv
    rw [slot_wait _ _ _ _ (Nat.le_add_left _ _), Nat.add_sub_cancel] at k1
    exact ⟨u', k1, k2⟩
  cases e <;> simp only [QS, inlQ] at q <;> simp only [bodyPost]
  case normal => exact fin q
  case ret => exact fin q
end
end
section
open Go.RowKit

inductive Cut where
  | whole
  | part (a m : Nat)
def Cut.app {α : Type} : Cut → List α → List α
  | .whole, l => l
  | .part a m, l => (l.drop a).take m
theorem Cut.map {α β : Type} (f : α → β) (c : Cut) (l : List α) : c.app (l.map f) = (c.app l).map f := by
  cases c with
  | whole => rfl
  | part a m => simp [Cut.app, List.map_take, List.map_drop]
def SrcIs (rd : Rd) (w : World) (u : Value) (sz : Nat) (xs : List (List SC)) : Prop :=
  ∃ a c vals, u = .slice a xs.length c ∧ vals.length = xs.length * sz ∧ RowIs rd sz vals xs ∧ (xs = [] ∨ ∃ ad, a = some ad ∧ ∀ j v, vals[j]? = some v → w.cell? (ad.add j) = some v) ∧ xs.length ≤ c ∧ c ≤ maxLen ∧ ∀ ad, a = some ad → xs = [] ∨ ∃ b o, ad = ⟨b, o, none⟩
def srcS (s : St) (sz : Nat) : SV → Option (List (List SC) × Cut)
  | .c (.lit (.slice none 0 0)) => some ([], .whole)
  | .c (.slc s' _ _ xs) => if s' = sz then some (xs, .whole) else none
  | .c (.own d) => match look s.hp d with
    | some (.row _ s' _ xs) => if s' = sz then some (xs, .whole) else none
    | _ => none
  | .c (.row d m) => match look s.hp d with
    | some (.row _ s' _ xs) => if s' = sz then some (xs, .part 0 m) else none
    | _ => none
  | .c (.sub d s1 a m) => match look s.hp d with
    | some (.row _ s' _ xs) => if s' = sz ∧ s1 = sz then some (xs, .part a m) else none
    | _ => none
  | .c (.win d off m) => match s.lookB d with
    | some cs => match immL ((cs.drop off).take m) with
      | some ys => if sz = 1 ∧ ys.length = m then some (ys.map (fun c => [c]), .whole) else none
      | none => none
    | none => none
  | _ => none
theorem RowIs.cut {rd : Rd} {sz : Nat} {us : List Value} {xs : List (List SC)} (h : RowIs rd sz us xs) (a m : Nat) : RowIs rd sz ((us.drop (a * sz)).take (m * sz)) ((xs.drop a).take m) := by
  refine ⟨fun x hx => h.1 x (List.mem_of_mem_drop (List.mem_of_mem_take hx)), fun i x j y hx hy => ?_⟩
  rw [List.getElem?_take] at hx
  split at hx
  · rename_i hi
    rw [List.getElem?_drop] at hx
    obtain ⟨u, h1, h2⟩ := h.2 _ x j y hx hy
    refine ⟨u, ?_, h2⟩
    have hj : j < sz := by
      have := (List.getElem?_eq_some_iff.1 hy).1
      rw [h.1 x (List.mem_of_getElem? hx)] at this
      exact this
    have hlt : i * sz + j < m * sz := by
      calc i * sz + j < i * sz + sz := by omega
        _ = (i + 1) * sz := by rw [Nat.add_mul, Nat.one_mul]
        _ ≤ m * sz := Nat.mul_le_mul_right _ hi
    rw [List.getElem?_take, if_pos hlt, List.getElem?_drop, ← Nat.add_assoc, ← Nat.add_mul]
    exact h1
  · cases hx
theorem tk_sliceM {w : World} {e sz n : Nat} {V : Value} {us : List Value} (h : w.ownsRowM e sz V n us) : ∃ a c, V = .slice a n c ∧ n ≤ c ∧ c ≤ maxLen ∧ vlen V = n ∧ (n = 0 ∨ ∃ b, a = some ⟨b, 0, none⟩ ∧ V.ownBlock = some b) := by
  rcases h.2 with ⟨h1, h2⟩ | ⟨gb, cap, cur, fz, h1, _, _, h2, h3, _⟩
  · subst h2; exact ⟨none, 0, h1, Nat.le_refl _, by simp [maxLen], by rw [h1]; rfl, .inl rfl⟩
  · exact ⟨_, cap, h1, h2, h3, by rw [h1]; rfl, .inr ⟨gb, rfl, by rw [h1]; rfl⟩⟩
theorem tk_slice {w : World} {e sz n : Nat} {V : Value} {us : List Value} (h : w.ownsRow 0 e sz V n us) : ∃ a c, V = .slice a n c ∧ n ≤ c ∧ c ≤ maxLen ∧ vlen V = n ∧ (n = 0 ∨ ∃ b, a = some ⟨b, 0, none⟩ ∧ V.ownBlock = some b) := tk_sliceM h.m
theorem srcS_rel {s : St} {sz : Nat} {v : SV} {xs : List (List SC)} {c : Cut} (h : srcS s sz v = some (xs, c)) {g : Env} {rd : Rd} {a : Act} {w : World} {o : Oper} (hv : OView g rd a w s o) {u : Value} (hu : VRel rd g u v) : SrcIs rd w u sz (c.app xs) := by
  unfold srcS at h
  split at h
  · cases h
    rw [rel_lit hu]
    exact ⟨none, 0, [], rfl, by simp [Cut.app], ⟨by simp [Cut.app], by simp [Cut.app]⟩, .inl rfl, Nat.le_refl _, by simp [maxLen], fun _ _ => .inl rfl⟩
  · split at h
    · rename_i hs; subst hs
      cases h
      obtain ⟨h1, _⟩ := hu
      obtain ⟨ay, cy, vals, h2 | ⟨ad, c, h3, h4, _⟩⟩ := src_row hv.reads h1
      · obtain ⟨h3, h3a, h3b, h4, h5, h6⟩ := h2
        refine ⟨ay, cy, vals, h3, h5, h4, ?_, h3a, h3b, fun ad hq => ?_⟩
        · rcases h6 with h6 | h6
          · exact .inl (List.eq_nil_of_length_eq_zero h6)
          · exact .inr h6
        · subst hq
          cases h1 with
          | nil s' a c hm => exact .inl rfl
          | slc b o n c s' xs' ff hn hc hm hs hr hu => cases h3; exact .inr ⟨_, _, rfl⟩
      · subst h4
        obtain ⟨ad2, c2, h3, hc2⟩ : ∃ ad c, u = .slice ad 0 c ∧ c ≤ maxLen := ⟨ad, c, h3, by assumption⟩
        exact ⟨ad2, c2, [], h3, by simp [Cut.app], ⟨by simp [Cut.app], by simp [Cut.app]⟩, .inl rfl, Nat.zero_le _, hc2, fun _ _ => .inl rfl⟩
    · cases h
  · rename_i d
    split at h
    · rename_i e s' n xs' hl
      split at h
      · rename_i hs; subst hs
        cases h
        obtain ⟨us, h1, h2, h3⟩ := hv.holds d _ hl
        obtain ⟨rfl, _⟩ := hu
        obtain ⟨b, c, h4, h4a, h4b, _, h5⟩ := tk_slice h1
        refine ⟨b, c, us, by simp only [Cut.app]; rw [h2]; exact h4, by simp only [Cut.app]; rw [h2]; exact h1.1, h3, ?_, by simp only [Cut.app]; omega, h4b, fun ad hq => ?_⟩
        · rcases h5 with h5 | ⟨bb, h5, h6⟩
          · exact .inl (List.eq_nil_of_length_eq_zero (h2.trans h5))
          · exact .inr ⟨_, h5, h1.cells h6⟩
        · rcases h5 with h5 | ⟨bb, h5, h6⟩
          · exact .inl (List.eq_nil_of_length_eq_zero (h2.trans h5))
          · rw [h5] at hq; cases hq; exact .inr ⟨_, _, rfl⟩
      · cases h
    · cases h
  · rename_i d m
    split at h
    · rename_i e s' n xs' hl
      split at h
      · rename_i hs; subst hs
        cases h
        obtain ⟨us, h1, h2, h3⟩ := hv.holds d _ hl
        obtain ⟨a', N, c', k1, rfl, k3⟩ := hu
        obtain ⟨b, c, h4, h4a, h4b, _, h5⟩ := tk_slice h1
        rw [h4] at k1
        cases k1
        have hlen : (Cut.app (.part 0 m) xs).length = m := by simp only [Cut.app, List.drop_zero, List.length_take]; omega
        have hcut := h3.cut 0 m
        refine ⟨_, _, (us.drop (0 * s')).take (m * s'), by rw [hlen], ?_, hcut, ?_, by rw [hlen]; omega, h4b, fun ad hq => ?_⟩
        · rw [hlen, Nat.zero_mul, List.drop_zero, List.length_take, h1.1]
          exact Nat.min_eq_left (Nat.mul_le_mul_right _ k3)
        · rcases h5 with h5 | ⟨bb, h5, h6⟩
          · left; exact List.eq_nil_of_length_eq_zero (by rw [hlen]; omega)
          · refine .inr ⟨_, h5, fun j v hj => h1.cells h6 j v ?_⟩
            rw [Nat.zero_mul, List.drop_zero, List.getElem?_take] at hj
            split at hj
            · exact hj
            · cases hj
        · rcases h5 with h5 | ⟨bb, h5, h6⟩
          · left; exact List.eq_nil_of_length_eq_zero (by rw [hlen]; omega)
          · rw [h5] at hq; cases hq; exact .inr ⟨_, _, rfl⟩
      · cases h
    · cases h
  · rename_i d s1 a' m
    split at h
    · rename_i e s' n xs' hl
      split at h
      · rename_i hs; obtain ⟨rfl, rfl⟩ := hs
        cases h
        obtain ⟨us, h1, h2, h3⟩ := hv.holds d _ hl
        obtain ⟨b, N, c, x, c', k1, k2, rfl, k4, k5, k6⟩ := hu
        obtain ⟨b', c2, h4, _, _, _, h5⟩ := tk_slice h1
        rw [h4] at k1
        cases k1
        have hlen : (Cut.app (.part a' m) xs).length = m := by simp only [Cut.app, List.length_take, List.length_drop]; omega
        refine ⟨_, _, (us.drop (a' * s1)).take (m * s1), by rw [hlen], ?_, h3.cut a' m, ?_, by rw [hlen]; omega, k5, fun ad hq => ?_⟩
        · rw [hlen, List.length_take, List.length_drop, h1.1, ← Nat.sub_mul]
          exact Nat.min_eq_left (Nat.mul_le_mul_right _ (by omega))
        · rcases k6 with k6 | ⟨blk, k6, k7⟩
          · left; exact List.eq_nil_of_length_eq_zero (by rw [hlen]; omega)
          · rcases h5 with h5 | ⟨bb, h5, h6⟩
            · left; exact List.eq_nil_of_length_eq_zero (by rw [hlen]; omega)
            · rw [k6] at h5
              cases h5
              refine .inr ⟨_, k7, fun j v hj => ?_⟩
              rw [List.getElem?_take] at hj
              split at hj
              · rw [List.getElem?_drop] at hj
                have := h1.cells h6 _ v hj
                rw [addr_add] at this ⊢
                rw [Nat.zero_add] at this
                exact this
              · cases hj
        · rcases k6 with k6 | ⟨blk, k6, k7⟩
          · left; exact List.eq_nil_of_length_eq_zero (by rw [hlen]; omega)
          · rw [k7] at hq; cases hq; exact .inr ⟨_, _, rfl⟩
      · cases h
    · cases h
  · rename_i d off m
    split at h
    · rename_i cs hl
      split at h
      · rename_i ys hys
        split at h
        · rename_i hs; obtain ⟨rfl, hs⟩ := hs
          cases h
          obtain ⟨A, c, rfl, k2, k3, k4⟩ := hu
          obtain ⟨i1, i2⟩ := immL_get _ _ hys
          have hb := hv.box d cs hl
          -- the cells
          have hex : ∃ vals : List Value, vals.length = m ∧ ∀ j v, vals[j]? = some v → w.cell? ⟨(g.pos d).1, (g.pos d).2 + off + j, none⟩ = some v ∧ ∃ y, ys[j]? = some y ∧ IRel rd v y := by
            refine ⟨(List.range m).map fun j => (w.cell? ⟨(g.pos d).1, (g.pos d).2 + off + j, none⟩).getD undef, by simp, fun j v hj => ?_⟩
            rw [List.getElem?_map] at hj
            obtain ⟨j', hj', rfl⟩ := Option.map_eq_some_iff.1 hj
            have hjm := (List.getElem?_eq_some_iff.1 hj').1
            rw [List.getElem?_eq_getElem hjm] at hj'
            simp only [List.getElem_range, Option.some.injEq] at hj'
            subst hj'
            rw [List.length_range] at hjm
            have hy : j < ys.length := by omega
            obtain ⟨x, hx1, hx2⟩ := i2 j _ (List.getElem?_eq_getElem hy)
            rw [List.getElem?_take, if_pos hjm, List.getElem?_drop] at hx1
            obtain ⟨u, q1, q2⟩ := hb (off + j) x hx1
            rw [← Nat.add_assoc] at q1
            refine ⟨by rw [q1]; rfl, ys[j], List.getElem?_eq_getElem hy, ?_⟩
            rw [q1]
            exact imm_rel q2 hx2
          obtain ⟨vals, e1, e2⟩ := hex
          have hlen : (Cut.app .whole (ys.map fun c => [c])).length = m := by simp [Cut.app, hs]
          refine ⟨A, c, vals, by rw [hlen], by rw [hlen, e1, Nat.mul_one], ⟨by simp [Cut.app], fun i x j y hx hy => ?_⟩, ?_, by rw [hlen]; exact k2, k3, fun ad hq => ?_⟩
          · simp only [Cut.app, List.getElem?_map] at hx
            obtain ⟨y0, hy0, rfl⟩ := Option.map_eq_some_iff.1 hx
            have hj0 : j = 0 := by have := (List.getElem?_eq_some_iff.1 hy).1; simp at this; exact this
            subst hj0
            simp at hy
            subst hy
            have hi : i < vals.length := by have := (List.getElem?_eq_some_iff.1 hy0).1; omega
            obtain ⟨_, y1, q1, q2⟩ := e2 i _ (List.getElem?_eq_getElem hi)
            rw [hy0] at q1
            cases q1
            exact ⟨_, by rw [Nat.mul_one, Nat.add_zero]; exact List.getElem?_eq_getElem hi, q2⟩
          · rcases k4 with k4 | k4
            · left; exact List.eq_nil_of_length_eq_zero (by rw [hlen]; exact k4)
            · exact .inr ⟨_, k4, fun j v hj => by rw [addr_add]; exact (e2 j v hj).1⟩
          · rcases k4 with k4 | k4
            · left; exact List.eq_nil_of_length_eq_zero (by rw [hlen]; exact k4)
            · rw [k4] at hq; cases hq; exact .inr ⟨_, _, rfl⟩
        · cases h
      · cases h
    · cases h
  · cases h
theorem SrcIs.one {rd : Rd} {sz : Nat} {vals : List Value} {xs : List (List SC)} (hs : 0 < sz) (hl : vals.length = xs.length * sz) (h : RowIs rd sz vals xs) (h1 : ∀ x ∈ xs, x.all SC.one = true) : ∀ u ∈ vals, u.oneCell' = true := by
  intro u hu'
  obtain ⟨k, hk, rfl⟩ := List.getElem_of_mem hu'
  have hkl : k < xs.length * sz := by omega
  have hi2 : k / sz < xs.length := Nat.div_lt_of_lt_mul (by rw [Nat.mul_comm]; exact hkl)
  have hx2 := List.getElem?_eq_getElem hi2
  have hlx := h.1 _ (List.getElem_mem hi2)
  have hj2 : k % sz < (xs[k / sz]).length := by rw [hlx]; exact Nat.mod_lt _ hs
  obtain ⟨v, q1, q2⟩ := h.2 _ _ _ _ hx2 (List.getElem?_eq_getElem hj2)
  rw [show k / sz * sz + k % sz = k by have := Nat.div_add_mod k sz; rw [Nat.mul_comm] at this; omega, List.getElem?_eq_getElem hk] at q1
  cases q1
  exact oneCell_imm q2 (List.all_eq_true.1 (h1 _ (List.getElem_mem hi2)) _ (List.getElem_mem hj2))

theorem run_append_keep {P : Program} {w : World} (t ty e : TypeId) (i : TypeInfo) (z : Value) (sz bytes : Nat) (ht : P.underlying t = some (.slice e)) (hi : P.info? e = some i) (hz : i.zero = some z) (hsize : i.size = sz) (hby : i.bytes = bytes) (hzs : z.cells.size = sz) (hsz : 0 < sz)
    (V : Value) (n : Nat) (us : List Value) (hown : w.ownsRow 0 e sz V n us) (ad : Addr) (m c : Nat) (vals : List Value) (hl : vals.length = m * sz) (hcells : ∀ j u, vals[j]? = some u → w.cell? (ad.add j) = some u) (h1 : ∀ u ∈ vals, u.oneCell' = true) (hm : 0 < m)
    (h63 : n + m ≤ maxLen) (hbytes : (n + m) * bytes ≤ 140737488355328) :
    ∃ V' w', (Builtin.append_ #[t, t] ty #[V, .slice (some ad) m c]).run P w = .ok V' w' ∧ w'.ownsRow 0 e sz V' (n + m) (us ++ vals) ∧ Keep w (fun b o => V.ownBlock = some b ∧ n * sz ≤ o) w' ∧ ∀ k, V'.ownBlock = some k → V.ownBlock = some k ∨ w.heap.size ≤ k := by
  subst hsize
  subst hby
  have hsmall : n + m ≤ 9223372036854775807 := by simp only [maxLen] at h63; omega
  have hlen : (us ++ vals).length = (n + m) * i.size := by rw [List.length_append, hown.1, hl, Nat.add_mul]
  have grown : ∀ (old : Nat), old < n + m →
      (w.drew.alloc (.cells (us.toArray ++ vals.toArray ++ Builtin.zeroCells z.cells (grownCap w (n + m) old e - (n + m))) e)).ownsRow 0 e i.size
        (.slice (some ⟨w.heap.size, 0, none⟩) (n + m) (grownCap w (n + m) old e)) (n + m) (us ++ vals) ∧
      Keep w (fun b o => V.ownBlock = some b ∧ n * i.size ≤ o) (w.drew.alloc (.cells (us.toArray ++ vals.toArray ++ Builtin.zeroCells z.cells (grownCap w (n + m) old e - (n + m))) e)) := by
    intro old ho
    have hge := grownCap_ge w (n + m) old e
    have hcm : grownCap w (n + m) old e ≤ maxLen := grownCap_le_maxLen w (n + m) old e h63
    refine ⟨⟨hlen, .inr ⟨w.heap.size, _, _, rfl, Nat.zero_le _, heap_alloc_new w.drew _, hge, hcm, ?_, ?_⟩⟩, (Keep.of_ext ((Ext.drew w).trans (Ext.alloc _ _))).weak (fun _ _ x => x.elim)⟩
    · simp only [Array.size_append, List.size_toArray, size_zeroCells, hzs, hown.1, hl, ← Nat.add_mul]
      congr 1
      omega
    · simp only [Array.toList_append, List.append_assoc]
      rw [← List.append_assoc, ← hlen]
      exact List.take_left
  rcases hown.2 with ⟨rfl, rfl⟩ | ⟨gb, cap, cur, rfl, hbg, hgg, hnc, hcm, hcs, htake⟩
  · have hx : us = [] := List.eq_nil_of_length_eq_zero (by simpa using hown.1)
    subst hx
    have hr := run_append_nil (P := P) w t ty e i z ht hi hz ad m c vals hl hcells hm (by omega) (by have hb := hbytes; simp only [Nat.zero_add] at hb; omega)
    have hgr := grown 0 (by omega)
    simp only [Nat.zero_add, List.nil_append, Array.empty_append] at hgr ⊢
    exact ⟨_, _, hr, hgr.1, hgr.2, fun k hk => .inr (by simp only [Value.ownBlock, Option.some.injEq] at hk; omega)⟩
  · by_cases hroom : n + m ≤ cap
    · have hfit : n * i.size + vals.length ≤ cur.size := by rw [hl, hcs, ← Nat.add_mul]; exact Nat.mul_le_mul_right _ hroom
      have hr := run_append_room (P := P) w t ty e i ht hi gb n cap cur hgg ad m c vals hl hcells h1 hroom hfit
      refine ⟨_, _, hr, ⟨hlen, .inr ⟨gb, cap, _, rfl, hbg, setRow_heap w gb cur _ e _ hgg, hroom, hcm, ?_, ?_⟩⟩, ⟨rfl, rfl, rfl, by simp, fun b hb => ?_⟩, fun k hk => .inl (by simpa [Value.ownBlock] using hk)⟩
      · simp only [List.size_toArray, List.length_append, List.length_take, List.length_drop, Array.length_toList]
        omega
      · rw [htake, ← hlen]
        exact List.take_left
      · by_cases hbb : b = gb
        · subst hbb
          refine .inr (.inl ⟨cur, _, e, (0, 0), hgg, setRow_heap w b cur _ e _ hgg, ?_, fun j hj => ?_⟩)
          · simp only [List.size_toArray, List.length_append, List.length_take, List.length_drop, Array.length_toList]
            omega
          · have hj' : j < n * i.size := by
              rcases Nat.lt_or_ge j (n * i.size) with h | h
              · exact h
              · exact absurd ⟨rfl, h⟩ hj
            rw [List.getElem?_toArray, List.append_assoc, List.getElem?_append_left (by simp only [List.length_take, Array.length_toList]; omega), List.getElem?_take, if_pos hj']
            simp
        · exact .inl (setRow_other w gb b _ hbb)
    · have holds : ∀ j u, us[j]? = some u → w.cell? ((⟨gb, 0, none⟩ : Addr).add j) = some u := hown.cells (g := gb) rfl
      have hr := run_append_grow (P := P) w t ty e i z ht hi hz ⟨gb, 0, none⟩ n cap us hown.1 holds ad m c vals hl hcells (by omega) (by omega) (growslice_fits (by omega) hbytes)
      have hgr := grown cap (by omega)
      exact ⟨_, _, hr, hgr.1, hgr.2, fun k hk => .inr (by simp only [Value.ownBlock, Option.some.injEq] at hk; omega)⟩

/-- cells of a row are written, wherever its mark lies behind it -/
theorem run_storeCells_atM (P : Program) (g o : Nat) (t : TypeId) (fz : Nat × Nat) : ∀ (vs : List Value) (i : Nat) (cur : Array Value) (w : World), w.heap[g]? = some (.cells cur t fz) → unfrozen fz cur.size → o + i + vs.length ≤ cur.size → (∀ v ∈ vs, v.oneCell' = true) →
    (storeCells ⟨g, o, none⟩ vs i).run P w = .ok () (w.setRow g (cur.toList.take (o + i) ++ vs ++ cur.toList.drop (o + i + vs.length)).toArray)
  | [], i, cur, w, hg, _, _, _ => by
    simp only [storeCells, List.append_nil, List.length_nil, Nat.add_zero, List.take_append_drop, Array.toArray_toList]
    rw [setRow_self w g cur t fz hg]
    rfl
  | v :: rest, i, cur, w, hg, hfz, hl, h1 => by
    have hi : o + i < cur.size := by simp at hl; omega
    have hadd : (⟨g, o, none⟩ : Addr).add i = ⟨g, o + i, none⟩ := by unfold Addr.add; split <;> simp_all
    have hcell : w.cell? ⟨g, o + i, none⟩ = some cur[o + i] := by simp [World.cell?, hg, hi]
    have hfro : w.frozen? ⟨g, o + i, none⟩ = false := by
      have := hfz _ hi
      obtain ⟨lo, hi'⟩ := fz
      simp only [World.frozen?, hg, Bool.and_eq_false_iff, decide_eq_false_iff_not]
      simp only at this
      omega
    have hst : (store ((⟨g, o, none⟩ : Addr).add i) v).run P w = .ok () (w.setRow g (cur.setIfInBounds (o + i) v)) := by
      rw [hadd, run_store P w _ v _ (h1 v (by simp)), hcell]
      simp [hfro, setCell_eq_setRow w g (o + i) cur t fz v hg]
    have ih := run_storeCells_atM P g o t fz rest (i + 1) (cur.setIfInBounds (o + i) v) (w.setRow g (cur.setIfInBounds (o + i) v)) (setRow_heap w g cur _ t _ hg) (by simpa using hfz) (by simp at hl ⊢; omega) (fun x hx => h1 x (by simp [hx]))
    simp only [storeCells, Sem.run_bind, hst, Result.andThen_ok, ih, setRow_setRow]
    congr 3
    have e := list_seg_step cur.toList (o + i) v rest (by simp at hl ⊢; omega)
    simpa [Array.toList_setIfInBounds, Nat.add_assoc] using e
theorem run_append_keepM {P : Program} {w : World} (t ty e : TypeId) (i : TypeInfo) (z : Value) (sz bytes : Nat) (ht : P.underlying t = some (.slice e)) (hi : P.info? e = some i) (hz : i.zero = some z) (hsize : i.size = sz) (hby : i.bytes = bytes) (hzs : z.cells.size = sz) (hsz : 0 < sz)
    (V : Value) (n : Nat) (us : List Value) (hown : w.ownsRowM e sz V n us) (ad : Addr) (m c : Nat) (vals : List Value) (hl : vals.length = m * sz) (hcells : ∀ j u, vals[j]? = some u → w.cell? (ad.add j) = some u) (h1 : ∀ u ∈ vals, u.oneCell' = true) (hm : 0 < m)
    (h63 : n + m ≤ maxLen) (hbytes : (n + m) * bytes ≤ 140737488355328) :
    ∃ V' w', (Builtin.append_ #[t, t] ty #[V, .slice (some ad) m c]).run P w = .ok V' w' ∧ w'.ownsRowM e sz V' (n + m) (us ++ vals) ∧ Keep w (fun b o => V.ownBlock = some b ∧ n * sz ≤ o) w' ∧ ∀ k, V'.ownBlock = some k → V.ownBlock = some k ∨ w.heap.size ≤ k := by
  subst hsize
  subst hby
  have hsmall : n + m ≤ 9223372036854775807 := by simp only [maxLen] at h63; omega
  have hlen : (us ++ vals).length = (n + m) * i.size := by rw [List.length_append, hown.1, hl, Nat.add_mul]
  have grown : ∀ (old : Nat), old < n + m →
      (w.drew.alloc (.cells (us.toArray ++ vals.toArray ++ Builtin.zeroCells z.cells (grownCap w (n + m) old e - (n + m))) e)).ownsRowM e i.size
        (.slice (some ⟨w.heap.size, 0, none⟩) (n + m) (grownCap w (n + m) old e)) (n + m) (us ++ vals) ∧
      Keep w (fun b o => V.ownBlock = some b ∧ n * i.size ≤ o) (w.drew.alloc (.cells (us.toArray ++ vals.toArray ++ Builtin.zeroCells z.cells (grownCap w (n + m) old e - (n + m))) e)) := by
    intro old ho
    have hge := grownCap_ge w (n + m) old e
    have hcm : grownCap w (n + m) old e ≤ maxLen := grownCap_le_maxLen w (n + m) old e h63
    refine ⟨⟨hlen, .inr ⟨w.heap.size, _, _, (0, 0), rfl, heap_alloc_new w.drew _, fun j _ q => Nat.not_lt_zero _ q.2, hge, hcm, ?_, ?_⟩⟩, (Keep.of_ext ((Ext.drew w).trans (Ext.alloc _ _))).weak (fun _ _ x => x.elim)⟩
    · simp only [Array.size_append, List.size_toArray, size_zeroCells, hzs, hown.1, hl, ← Nat.add_mul]
      congr 1
      omega
    · simp only [Array.toList_append, List.append_assoc]
      rw [← List.append_assoc, ← hlen]
      exact List.take_left
  rcases hown.2 with ⟨rfl, rfl⟩ | ⟨gb, cap, cur, fz, rfl, hgg, huf, hnc, hcm, hcs, htake⟩
  · have hx : us = [] := List.eq_nil_of_length_eq_zero (by simpa using hown.1)
    subst hx
    have hr := run_append_nil (P := P) w t ty e i z ht hi hz ad m c vals hl hcells hm (by omega) (by have hb := hbytes; simp only [Nat.zero_add] at hb; omega)
    have hgr := grown 0 (by omega)
    simp only [Nat.zero_add, List.nil_append, Array.empty_append] at hgr ⊢
    exact ⟨_, _, hr, hgr.1, hgr.2, fun k hk => .inr (by simp only [Value.ownBlock, Option.some.injEq] at hk; omega)⟩
  · by_cases hroom : n + m ≤ cap
    · have hfit : n * i.size + vals.length ≤ cur.size := by rw [hl, hcs, ← Nat.add_mul]; exact Nat.mul_le_mul_right _ hroom
      have hf := run_firstCells_some (P := P) w i.size m ad m c vals hl hcells
      have hst := run_storeCells_atM P gb (n * i.size) e fz vals 0 cur w hgg huf (by simpa using hfit) h1
      simp only [Nat.add_zero] at hst
      have hr : (Builtin.append_ #[t, t] ty #[.slice (some ⟨gb, 0, none⟩) n cap, .slice (some ad) m c]).run P w = .ok (.slice (some ⟨gb, 0, none⟩) (n + m) cap) (w.setRow gb (cur.toList.take (n * i.size) ++ vals ++ cur.toList.drop (n * i.size + vals.length)).toArray) := by
        simp [Builtin.append_, run_underlying ht, sizeOf, typeInfo, hi, Builtin.lenOf, hroom, hf, Addr.add_lit, hst]
      have hsz2 : (cur.toList.take (n * i.size) ++ vals ++ cur.toList.drop (n * i.size + vals.length)).toArray.size = cur.size := by
        simp only [List.size_toArray, List.length_append, List.length_take, List.length_drop, Array.length_toList]
        omega
      refine ⟨_, _, hr, ⟨hlen, .inr ⟨gb, cap, _, fz, rfl, setRow_heap w gb cur _ e _ hgg, by rw [hsz2]; exact huf, hroom, hcm, ?_, ?_⟩⟩, ⟨rfl, rfl, rfl, by simp, fun b hb => ?_⟩, fun k hk => .inl (by simpa [Value.ownBlock] using hk)⟩
      · rw [hsz2]; exact hcs
      · rw [htake, ← hlen]
        exact List.take_left
      · by_cases hbb : b = gb
        · subst hbb
          refine .inr (.inl ⟨cur, _, e, fz, hgg, setRow_heap w b cur _ e _ hgg, ?_, fun j hj => ?_⟩)
          · simp only [List.size_toArray, List.length_append, List.length_take, List.length_drop, Array.length_toList]
            omega
          · have hj' : j < n * i.size := by
              rcases Nat.lt_or_ge j (n * i.size) with h | h
              · exact h
              · exact absurd ⟨rfl, h⟩ hj
            rw [List.getElem?_toArray, List.append_assoc, List.getElem?_append_left (by simp only [List.length_take, Array.length_toList]; omega), List.getElem?_take, if_pos hj']
            simp
        · exact .inl (setRow_other w gb b _ hbb)
    · have holds : ∀ j u, us[j]? = some u → w.cell? ((⟨gb, 0, none⟩ : Addr).add j) = some u := hown.cells (g := gb) rfl
      have hr := run_append_grow (P := P) w t ty e i z ht hi hz ⟨gb, 0, none⟩ n cap us hown.1 holds ad m c vals hl hcells (by omega) (by omega) (growslice_fits (by omega) hbytes)
      have hgr := grown cap (by omega)
      exact ⟨_, _, hr, hgr.1, hgr.2, fun k hk => .inr (by simp only [Value.ownBlock, Option.some.injEq] at hk; omega)⟩

section
variable {K : Ctx} {g g' : Env} {w w' : World} {n : Nat} {a : Act} {s : St}
/-- the spare token of one name has grown, or is what it was -/
structure Grew (g g' : Env) (d0 : Nat) : Prop where
  pos : ∀ d, g'.pos d = g.pos d
  tk1 : ∀ d, (g'.tk d).1 = (g.tk d).1
  tk : ∀ d, d ≠ d0 → g'.tk d = g.tk d
  tk2 : g'.tk d0 = g.tk d0 ∨ vlen (g.tk d0).2 < vlen (g'.tk d0).2
theorem CRel0.grew {rd rd' : Rd} (hle : rd.le rd') {d0 : Nat} (k : Grew g g' d0) {v : Value} {x : SC} (h : CRel0 rd g v x) : CRel0 rd' g' v x := by
  cases x with
  | lit u => exact h.mono hle
  | ref cs => exact h.mono hle
  | box d off => simp only [CRel0, k.pos] at *; exact h
  | own d => simp only [CRel0, k.tk1] at *; exact h
  | row d n => simp only [CRel0, k.tk1] at *; exact h
  | win d off n => simp only [CRel0, k.pos] at *; exact h
  | sub d s a n => simp only [CRel0, k.tk1] at *; exact h
  | elt d s i off => simp only [CRel0, k.tk1] at *; exact h
  | ex d => simp only [CRel0, k.tk1] at *; exact h
  | any => trivial
  | clo c cs => exact h.elim
  | slc s tag n xs =>
    refine ⟨h.1.mono hle, ?_⟩
    rcases tag with _ | _ | t
    · trivial
    · exact h.2
    · have h2 := h.2
      simp only [Tag] at h2 ⊢
      by_cases ht : t = d0
      · subst ht
        rcases k.tk2 with e | e
        · rw [e]; exact h2
        · exact ⟨by omega, fun q => by omega⟩
      · rw [k.tk t ht]; exact h2
theorem CRel.grew {rd rd' : Rd} (hle : rd.le rd') {d0 : Nat} (k : Grew g g' d0) {v : Value} {x : SC} (h : CRel rd g v x) : CRel rd' g' v x := by
  cases x with
  | clo c cs =>
    obtain ⟨caps, h1, h2, h3⟩ := h
    exact ⟨caps, h1, h2, fun j y hy => let ⟨u, h4, h5⟩ := h3 j y hy; ⟨u, h4, h5.grew hle k⟩⟩
  | lit u => exact CRel0.up (CRel0.grew hle k (x := .lit u) h)
  | ref u => exact CRel0.up (CRel0.grew hle k (x := .ref u) h)
  | box d off => exact CRel0.up (CRel0.grew hle k (x := .box d off) h)
  | own d => exact CRel0.up (CRel0.grew hle k (x := .own d) h)
  | row d n => exact CRel0.up (CRel0.grew hle k (x := .row d n) h)
  | win d off n => exact CRel0.up (CRel0.grew hle k (x := .win d off n) h)
  | sub d s a n => exact CRel0.up (CRel0.grew hle k (x := .sub d s a n) h)
  | elt d s i off => exact CRel0.up (CRel0.grew hle k (x := .elt d s i off) h)
  | ex d => exact CRel0.up (CRel0.grew hle k (x := .ex d) h)
  | any => trivial
  | slc s tag n xs => exact CRel0.up (CRel0.grew hle k (x := .slc s tag n xs) h)
/-- the spare room behind a row is taken -/
theorem RG.grow (h : RG K g n a w s) {d : Nat} {r0 r : Res} (hl : look s.hp d = some r0) (hgr : Grew g g' d) (hk : Keep w (Foot g d r0) w') (hfoot : ∀ b o, Foot g' d r b o → Foot g d r0 b o ∨ w.heap.size ≤ b) (hnb : ∀ cs, r ≠ .box cs) (hr0 : r0.isBox = false)
    (hh : (rdOf K g s.hp w).le (rdOf K g' (setL d r s.hp) w') → Holds (rdOf K g' (setL d r s.hp) w') g' w' d r) : RG K g' n a w' (s.setR d r) ∧ (rdOf K g s.hp w).le (rdOf K g' (setL d r s.hp) w') := by
  have ht : ∀ e, (e == d) = false → e ≠ d := fun e h => by simpa using h
  have ht' : ∀ e, (e == d) = true → e = d := fun e h => by simpa using h
  have he : ∀ e x, (e == d) = false → look s.hp e = some x → g'.pos e = g.pos e ∧ g'.tk e = g.tk e := fun e x h1 _ => ⟨hgr.pos e, hgr.tk e (ht e h1)⟩
  have hl' : ∀ e, e ≠ d → look (setL d r s.hp) e = look s.hp e := fun e he' => by rw [look_setL, if_neg (Ne.symm he')]
  have hld : look (setL d r s.hp) d = some r := by rw [look_setL, if_pos rfl]
  have hk' : Keep w (fun b o => ∃ e x, (e == d) = true ∧ look s.hp e = some x ∧ Foot g e x b o) w' := hk.weak (fun b o x => ⟨d, r0, by simp, hl, x⟩)
  have hf' : ∀ e x b o, (e == d) = true → look (setL d r s.hp) e = some x → Foot g' e x b o → (∃ e' r', (e' == d) = true ∧ look s.hp e' = some r' ∧ Foot g e' r' b o) ∨ w.heap.size ≤ b := by
    intro e x b o h1 h2 h3
    have := ht' e h1; subst this
    rw [hld] at h2; cases h2
    rcases hfoot b o h3 with h4 | h4
    · exact .inl ⟨e, r0, by simp, hl, h4⟩
    · exact .inr h4
  have hle := rd_step (K := K) (g := g) (g' := g') (w := w) (w' := w') (h := s.hp) (h' := setL d r s.hp) h.hg (· == d) he (fun e x h1 h2 => ⟨x, fun y => y, by rw [← hl' e (ht e h1)]; exact h2, x.map_id.symm⟩) hk' hf'
  have k := h.hg.step (g' := g') (w' := w') (h' := setL d r s.hp) (· == d) (fun y => y) (fun _ => true) he (fun e x h1 h2 => ⟨x, by rw [← hl' e (ht e h1)]; exact h2, x.map_id.symm, x.every_true⟩) hk' hf'
    (fun e e' x x' b o h1 h2 hne => absurd ((ht' e h1).trans (ht' e' h2).symm) hne) (fun u x _ hc => hc.grew hle hgr)
    (fun e x h1 h2 => by have := ht' e h1; subst this; rw [hld] at h2; cases h2; exact hh hle)
    (fun e cs h1 _ h2 => by have := ht' e h1; subst this; rw [hld] at h2; cases h2; exact absurd rfl (hnb cs))
    (fun e x h1 h2 _ b o hf => by
      have := ht' e h1; subst this
      rw [hld] at h2; cases h2
      rcases hfoot b o hf with h4 | h4
      · exact h.hg.new e r0 hl hr0 b o h4
      · exact .inl (Nat.le_trans h.hg.keep.size h4))
  exact ⟨⟨h.defers, h.size, h.few, k, fun t v hv => let ⟨u, h1, h2⟩ := h.tmps t v hv; ⟨u, h1, h2.imp1 (p := fun _ => true) (fun v x _ hc => hc.grew hle hgr) v.every_true⟩⟩, hle⟩
end

def appTArgs (P : Program) (s : St) (o : Oper) : Option (Nat × Nat × Nat × Nat × Nat × Nat × List (List SC) × List (List SC) × Cut) := match o.op with
  | .call { callee := .builtin .append, args := xs, argTypes := ts } => match xs.toList, ts.toList with
    | [x, y], [t, t'] => match P.underlying t with
      | some (.slice e) => match P.info? e with
        | some ie => match opd s x, (opd s y).bind (srcS s ie.size) with
          | some (.c (.slc sz (d + 2) N a)), some (b, c) => match look s.hp d with
            | some (.spare e' sz' N') => if t = t' ∧ ie.zero.map (·.cells.size) = some ie.size ∧ 0 < ie.size ∧ e' = e ∧ sz = ie.size ∧ sz' = ie.size then some (d, e, ie.size, ie.bytes, N, N', a, b, c) else none
            | _ => none
          | _, _ => none
        | none => none
      | _ => none
    | _, _ => none
  | _ => none
theorem S_appT {α : Type} {P : Program} {K : Ctx} {n : Nat} {ops : Array Oper} {o : Oper} {s : St} {d e sz by_ N : Nat} (f : α → List SC) (hone : ∀ x, (f x).all SC.one = true) {l1 l2 l' : List α} {c : Cut} (he : appO by_ l1 (c.app l2) = some l') (h : appTArgs P s o = some (d, e, sz, by_, N, N, l1.map f, l2.map f, c)) (hgd : guardOf ops o s = some true) (hd : dstOk n o = true) :
    Stp P K n ops o s ((s.setR d (.spare e sz l'.length)).put o.dst (.c (.slc sz (d + 2) l'.length (l'.map f)))) := by
  unfold appTArgs at h
  split at h
  rotate_left
  · cases h
  rename_i xs ts ho
  split at h
  rotate_left
  · cases h
  rename_i x y t t' hxs hts
  have hxs' : xs = #[x, y] := by rw [← Array.toArray_toList (xs := xs), hxs]
  have hts' : ts = #[t, t'] := by rw [← Array.toArray_toList (xs := ts), hts]
  subst hxs'
  subst hts'
  split at h
  rotate_left
  · cases h
  rename_i e1 hu
  split at h
  rotate_left
  · cases h
  rename_i ie hi
  split at h
  rotate_left
  · cases h
  rename_i sz1 d1 N1 a1 b1 c1 hx hy
  split at h
  rotate_left
  · cases h
  rename_i e2 sz2 N2 hl
  split at h
  rotate_left
  · cases h
  rename_i hq
  obtain ⟨rfl, hz, hs0, rfl, rfl, rfl⟩ := hq
  cases h
  obtain ⟨z, hz, hzc⟩ := Option.map_eq_some_iff.1 hz
  simp only [appO] at he
  split at he
  rotate_left
  · cases he
  rename_i hb
  cases he
  refine Stp_mk hgd fun g a w r K' Q hK => ?_
  have hview := r.view.o o
  obtain ⟨vy, hy1, hy2⟩ := Option.bind_eq_some_iff.1 hy
  have hvx := hview.op x _ (by simp [ho, Op.operands, Call.operands]) hx
  have hsrc := srcS_rel hy2 hview (hview.op y _ (by simp [ho, Op.operands, Call.operands]) hy1)
  rw [Cut.map] at hsrc
  obtain ⟨rx, htag⟩ := hvx
  have hN := irel_n rx
  rw [List.length_map] at hN
  subst hN
  obtain ⟨us, hown⟩ := r.hg.holds d _ hl
  obtain ⟨aV, cV, hV, hVc, hVm, hvl, hblk⟩ := tk_sliceM hown
  have hux : a.eval x = (g.tk d).2 := htag.2 hvl.symm
  unfold Oper.wp
  simp only [execOp, ho, resolve, invoke, builtin, Sem.run_bind, Sem.run_pure, Result.andThen_ok, List.map_toArray, List.map_cons, List.map_nil]
  rw [hux] at rx ⊢
  generalize hvy : a.eval y = uy at *
  obtain ⟨ay, cy, vals, rfl, hlv, hrow, hwhere, _⟩ := hsrc
  rw [List.length_map] at hlv ⊢
  generalize hl2' : c.app l2 = l2' at *
  -- nothing appended
  by_cases hl2 : l2' = []
  · subst hl2
    rw [List.append_nil] at hK
    simp only [List.length_nil]
    rw [hV, run_append_zero t o.type e ie hu hi aV ay l1.length cV cy hVc, ← hV]
    simp only [Result.andThen_ok, Oper.upon]
    refine hK _ _ ⟨g, RG.put ?_ o.dst (dstOk_spec hd) ⟨?_, ?_⟩⟩
    · exact (r.upd (r := .spare e ie.size l1.length) hl (fun _ _ x => x) (Keep.refl _ _) (fun _ q => by cases q) (fun q => q) (fun _ => ⟨us, hown⟩)).1
    · have := (r.upd (r := .spare e ie.size l1.length) hl (fun _ _ x => x) (Keep.refl _ _) (fun _ q => by cases q) (fun q => q) (fun _ => ⟨us, hown⟩)).2
      exact rx.mono this
    · exact ⟨by omega, fun _ => rfl⟩
  have hpos : 0 < l2'.length := List.length_pos_iff.2 hl2
  obtain ⟨ad, rfl, hcells⟩ : ∃ ad, ay = some ad ∧ ∀ j v, vals[j]? = some v → w.cell? (ad.add j) = some v := by
    rcases hwhere with h0 | h0
    · exact absurd (List.map_eq_nil_iff.1 h0) hl2
    · exact h0
  have h1v := SrcIs.one hs0 (by rw [List.length_map]; exact hlv) hrow (fun x hx => by obtain ⟨y, _, rfl⟩ := List.mem_map.1 hx; exact hone y)
  obtain ⟨V', w', q1, q2, q3, q4⟩ := run_append_keepM (P := P) t o.type e ie z ie.size ie.bytes hu hi hz rfl rfl hzc hs0 _ _ us hown ad l2'.length cy vals hlv hcells h1v hpos (by unfold maxLen; omega) hb.1
  rw [q1]
  simp only [Result.andThen_ok, Oper.upon]
  obtain ⟨aV', cV', hV', hVc', hVm', hvl', hblk'⟩ := tk_sliceM q2
  -- the names afterwards
  let g' : Env := { pos := g.pos, tk := fun e => if e = d then ((g.tk d).1, V') else g.tk e }
  have hgd' : g'.tk d = ((g.tk d).1, V') := by simp [g']
  have hgr : Grew g g' d := ⟨fun _ => rfl, fun e => by by_cases q : e = d <;> simp [g', q], fun e q => by simp [g', q], .inr (by rw [hgd', hvl, hvl']; omega)⟩
  have hlen : (l1 ++ l2').length = l1.length + l2'.length := List.length_append
  obtain ⟨r1, hle⟩ := r.grow (g' := g') (w' := w') (r := .spare e ie.size (l1 ++ l2').length) hl hgr q3 (fun b o' hf => by
      simp only [Foot, hgd'] at hf
      rcases q4 b hf.1 with h5 | h5
      · refine .inl ⟨h5, Nat.le_trans (Nat.mul_le_mul_right _ ?_) hf.2⟩
        omega
      · exact .inr h5) (fun _ q => by cases q) rfl (fun _ => ⟨us ++ vals, by rw [hgd', hlen]; exact q2⟩)
  refine hK _ _ ⟨g', r1.put o.dst (dstOk_spec hd) ⟨?_, ?_⟩⟩
  · -- the elements
    have hrx : RowIs (rdOf K g s.hp w) ie.size us (l1.map f) := by
      rcases hblk with h0 | ⟨bb, hbb, hbk⟩
      · have : l1 = [] := List.eq_nil_of_length_eq_zero h0
        subst this
        exact ⟨by simp, by simp⟩
      · obtain ⟨_, _, valsx, hs | ⟨ad', c', h3, hnil', _⟩⟩ := src_row hview.reads rx
        · obtain ⟨h3, _, _, hrow', hlv', hw'⟩ := hs
          rw [List.length_map] at hlv' hw' h3
          rcases hw' with h0 | ⟨ad', hh, hcells'⟩
          · have : l1 = [] := List.eq_nil_of_length_eq_zero h0
            subst this
            exact ⟨by simp, by simp⟩
          · rw [hV, hbb] at h3
            cases h3
            cases hh
            have : us = valsx := by
              apply List.ext_getElem?
              intro j
              rcases Nat.lt_or_ge j (l1.length * ie.size) with hj | hj
              · have hju : j < us.length := by rw [hown.1]; exact hj
                have hjv : j < valsx.length := by omega
                have q1 := hown.cells hbk j (us[j]'hju) (List.getElem?_eq_getElem hju)
                have q2 := hcells' j (valsx[j]'hjv) (List.getElem?_eq_getElem hjv)
                rw [q1] at q2
                rw [List.getElem?_eq_getElem hju, List.getElem?_eq_getElem hjv]
                exact q2
              · rw [List.getElem?_eq_none (by rw [hown.1]; exact hj), List.getElem?_eq_none (by omega)]
            rw [this]
            exact hrow'
        · have : l1 = [] := by simpa using hnil'
          subst this
          exact ⟨by simp, by simp⟩
    have hr2 : RowIs (rdOf K g s.hp w) ie.size (us ++ vals) ((l1 ++ l2').map f) := by
      rw [List.map_append]
      exact hrx.append hrow (by rw [List.length_map]; exact hown.1)
    rcases hblk' with h0 | ⟨bb, hbb, hbk⟩
    · omega
    rw [hV', hbb, ← hlen]
    refine row_is (b := bb) (vals := us ++ vals) (hr2.mono hle) (by simp) (by rw [hlen]; exact hVc') hVm' (fun k v hv hk => ?_)
    -- each cell is read
    have hcell := q2.cells hbk k v hv
    rw [addr_add, Nat.zero_add] at hcell
    rcases q4 bb hbk with h5 | h5
    · -- in place
      rcases Nat.lt_or_ge k (l1.length * ie.size) with hk1 | hk1
      · rcases hblk with h0 | ⟨b2, hb2, hbk2⟩
        · rw [h0] at hk1; omega
        · rw [h5] at hbk2
          cases hbk2
          rw [hV, hb2] at rx
          have hv2 : us[k]? = some v := by rwa [List.getElem?_append_left (by rw [hown.1]; exact hk1)] at hv
          refine hle _ _ _ ?_
          generalize hsc : SC.slc ie.size 0 l1.length (l1.map f) = yy at rx
          generalize hvv : Value.slice (some ⟨bb, 0, none⟩) l1.length cV = vv at rx
          cases rx with
          | lit v => cases hsc
          | nil s' a c hm => injection hsc with _ _ h9 _; rw [h9] at hk1; omega
          | ref b o cs f hr hu => cases hsc
          | slc1 => cases hsc
          | slc b o n c s' xs' ff hn hc hm hs hr hu =>
            cases hsc
            cases hvv
            have hs0' : 0 < ie.size := hs0
            have hi2 : k / ie.size < (l1.map f).length := by rw [List.length_map]; exact Nat.div_lt_of_lt_mul (by rw [Nat.mul_comm]; exact hk1)
            have hx2 := List.getElem?_eq_getElem hi2
            have hlx := hs _ (List.getElem_mem hi2)
            have hj2 : k % ie.size < ((l1.map f)[k / ie.size]).length := by rw [hlx]; exact Nat.mod_lt _ hs0'
            have h6 := hr _ _ _ _ hx2 (List.getElem?_eq_getElem hj2)
            rw [Nat.zero_add, show k / ie.size * ie.size + k % ie.size = k by have := Nat.div_add_mod k ie.size; rw [Nat.mul_comm] at this; omega] at h6
            have h7 := rdOf_le g s.hp r.hg.keep _ _ _ h6
            have h8 := hown.cells h5 k v hv2
            rw [addr_add, Nat.zero_add, h7] at h8
            rw [h6]; exact h8
      · unfold rdOf
        have hnew : ¬ InFoot g' (s.setR d (.spare e ie.size (l1 ++ l2').length)).hp bb k := by
          rintro ⟨d2, x2, k1, k2⟩
          simp only [St.setR, look_setL] at k1
          split at k1
          · rename_i hdd
            cases k1
            simp only [Foot, ← hdd, hgd'] at k2
            omega
          · rename_i hdd
            rw [foot_env ⟨hgr.pos d2, hgr.tk d2 (Ne.symm hdd)⟩] at k2
            exact r.hg.dis d2 d x2 _ bb k (Ne.symm hdd) k1 hl k2 ⟨h5, hk1⟩
        rw [if_neg hnew, if_neg]
        · exact hcell
        · exact fun q => (r.hg.new d _ hl rfl bb k ⟨h5, hk1⟩).elim (fun q2 => Nat.not_lt.2 q2 q.1) q.2
    · unfold rdOf
      have hnew : ¬ InFoot g' (s.setR d (.spare e ie.size (l1 ++ l2').length)).hp bb k := by
        rintro ⟨d2, x2, k1, k2⟩
        simp only [St.setR, look_setL] at k1
        split at k1
        · rename_i hdd
          cases k1
          simp only [Foot, ← hdd, hgd'] at k2
          omega
        · rename_i hdd
          rw [foot_env ⟨hgr.pos d2, hgr.tk d2 (Ne.symm hdd)⟩] at k2
          have := (r.hg.holds d2 x2 k1).lt k2
          omega
      rw [if_neg hnew, if_neg (by have := r.hg.keep.size; omega)]
      exact hcell
  · show _ ≤ vlen (g'.tk d).2 ∧ (_ = vlen (g'.tk d).2 → V' = (g'.tk d).2)
    rw [hgd']
    exact ⟨by rw [hvl', hlen]; exact Nat.le_refl _, fun _ => rfl⟩
end
section
open Go.RowKit

section
variable {P : Program} {K : Ctx} {g g' : Env} {w w' : World} {n : Nat} {a : Act} {s : St} {ops : Array Oper} {o : Oper}
/-- an operation that makes a row of its own -/
def OwnOp (P : Program) (o : Oper) (s : St) (e sz : Nat) (xs : List (List SC)) : Prop :=
  ∀ g rd a w, OView g rd a w s o → ∃ V w' us, (execOp a.eval o).run P w = .ok (.value V) w' ∧ Ext w w' ∧ w'.ownsRow 0 e sz V xs.length us ∧ (∀ b, V.ownBlock = some b → w.heap.size ≤ b) ∧ RowIs rd sz us xs
theorem Sub.own {s s' : St} (h : Sub s s') {e sz : Nat} {xs : List (List SC)} (hp : OwnOp P o s e sz xs) : OwnOp P o s' e sz xs :=
  fun g rd a w hv => hp g rd a w ⟨fun x v hx hq => hv.op x v hx (h.opd hq), hv.reads, fun d r hd => hv.holds d r (h.h d r hd)⟩
/-- the same; a mark may lie behind the row -/
def OwnOpM (P : Program) (o : Oper) (s : St) (e sz : Nat) (xs : List (List SC)) : Prop :=
  ∀ g rd a w, OView g rd a w s o → ∃ V w' us, (execOp a.eval o).run P w = .ok (.value V) w' ∧ Ext w w' ∧ w'.ownsRowM e sz V xs.length us ∧ (∀ b, V.ownBlock = some b → w.heap.size ≤ b) ∧ RowIs rd sz us xs
theorem OwnOp.m {e sz : Nat} {xs : List (List SC)} (hp : OwnOp P o s e sz xs) : OwnOpM P o s e sz xs := fun g rd a w hv => let ⟨V, w', us, h1, h2, h3, h4, h5⟩ := hp g rd a w hv; ⟨V, w', us, h1, h2, h3.m, h4, h5⟩
theorem S_ownM {e sz : Nat} {xs : List (List SC)} (d : Nat) (hp : OwnOpM P o s e sz xs) (hgd : guardOf ops o s = some true) (hdst : o.dst = some d) (hd : d < n) (hd6 : d < 1000000) (hf : NoName s d (some d)) :
    Stp P K n ops o s ((s.setR d (.spare e sz xs.length)).put (some d) (.c (.slc sz (d + 2) xs.length xs))) := by
  refine Stp_mk hgd fun g a w r K' Q hK => ?_
  obtain ⟨V, w', us, h1, h2, h3, h4, h5⟩ := hp _ _ _ _ (r.view.o o)
  unfold Oper.wp
  rw [h1]
  simp only [Oper.upon]
  obtain ⟨aV, cV, hV, hVc, hVm, hvl, hblk⟩ := tk_sliceM h3
  have h0 := r.forget d
  have hgd' : (g.setTk d (undef, V) (0, 0)).tk d = (undef, V) := by simp [Env.setTk]
  obtain ⟨r1, hle⟩ := h0.add (g' := g.setTk d (undef, V) (0, 0)) (w' := w') (r := .spare e sz xs.length) hd6 hf.drop (fun e he => by simp [Env.setTk, he]) h2 (fun b o hb => by
      simp only [Foot, hgd'] at hb
      exact h4 b hb.1) (fun hle => ⟨us, by rw [hgd']; exact h3⟩)
  have r2 := r1.put (some d) (fun t ht => by cases ht; exact hd) (u := V) (v := .c (.slc sz (d + 2) xs.length xs)) (by
    refine ⟨?_, ?_⟩
    · rcases hblk with h0 | ⟨bb, hbb, hbk⟩
      · have hx : xs = [] := List.eq_nil_of_length_eq_zero h0
        subst hx
        rw [hV]
        exact .nil sz _ _ hVm
      · have hVe : V = .slice (some ⟨bb, 0, none⟩) xs.length cV := by rw [hV, hbb]
        conv => arg 2; rw [hVe]
        refine row_is (b := bb) (vals := us) (h5.mono hle) rfl hVc hVm (fun k v hv hk => ?_)
        have hcell := h3.cells hbk k v hv
        rw [addr_add, Nat.zero_add] at hcell
        have hb := h4 bb hbk
        unfold rdOf
        rw [if_neg, if_neg (by have := r.hg.keep.size; omega)]
        · exact hcell
        · rintro ⟨d2, x2, k1, k2⟩
          simp only [St.setR, look_setL] at k1
          split at k1
          · rename_i hdd
            cases k1
            simp only [Foot] at k2
            omega
          · rename_i hdd
            rw [foot_env (g := g) (by simp [Env.setTk, Ne.symm hdd])] at k2
            have := (r.hg.holds d2 x2 k1).lt k2
            omega
    · show _ ≤ vlen ((g.setTk d (undef, V) (0, 0)).tk d).2 ∧ (_ = vlen ((g.setTk d (undef, V) (0, 0)).tk d).2 → V = ((g.setTk d (undef, V) (0, 0)).tk d).2)
      rw [hgd', hvl]
      exact ⟨Nat.le_refl _, fun _ => rfl⟩)
  rw [hdst]
  exact hK _ _ ⟨_, r2.sim (fun k => (put_drop (s.setR d (.spare e sz xs.length)) d _ k).symm) rfl⟩
theorem S_ownT {e sz : Nat} {xs : List (List SC)} (d : Nat) (hp : OwnOp P o s e sz xs) (hgd : guardOf ops o s = some true) (hdst : o.dst = some d) (hd : d < n) (hd6 : d < 1000000) (hf : NoName s d (some d)) :
    Stp P K n ops o s ((s.setR d (.spare e sz xs.length)).put (some d) (.c (.slc sz (d + 2) xs.length xs))) := S_ownM d hp.m hgd hdst hd hd6 hf
/-- the same as a row that may be written -/
theorem S_ownR {e sz : Nat} {xs : List (List SC)} (d : Nat) (hp : OwnOp P o s e sz xs) (hgd : guardOf ops o s = some true) (hdst : o.dst = some d) (hd : d < n) (hd6 : d < 1000000) (hf : NoName s d (some d)) :
    Stp P K n ops o s ((s.setR d (.row e sz xs.length xs)).put (some d) (.c (.own d))) := by
  refine Stp_mk hgd fun g a w r K' Q hK => ?_
  obtain ⟨V, w', us, h1, h2, h3, h4, h5⟩ := hp _ _ _ _ (r.view.o o)
  unfold Oper.wp
  rw [h1]
  simp only [Oper.upon]
  obtain ⟨aV, cV, hV, hVc, hVm, hvl, hblk⟩ := tk_slice h3
  have h0 := r.forget d
  have hgd' : (g.setTk d (V, undef) (0, 0)).tk d = (V, undef) := by simp [Env.setTk]
  obtain ⟨r1, hle⟩ := h0.add (g' := g.setTk d (V, undef) (0, 0)) (w' := w') (r := .row e sz xs.length xs) hd6 hf.drop (fun e he => by simp [Env.setTk, he]) h2 (fun b o hb => by
      simp only [Foot, hgd'] at hb
      exact h4 b hb) (fun hle => ⟨us, by rw [hgd']; exact h3, rfl, h5.mono hle⟩)
  have r2 := r1.put (some d) (fun t ht => by cases ht; exact hd) (u := V) (v := .c (.own d)) (by
    simp only [VRel, CRel, CRel0]
    rw [hgd']
    exact ⟨rfl, .inl ⟨_, _, _, hV⟩⟩)
  rw [hdst]
  exact hK _ _ ⟨_, r2.sim (fun k => (put_drop (s.setR d (.row e sz xs.length xs)) d _ k).symm) rfl⟩

theorem RG.recast (h : RG K g n a w s) {t : Nat} {v0 v : SV} (hl : look s.tmps t = some v0) (hv : ∀ u, VRel (rdOf K g s.hp w) g u v0 → VRel (rdOf K g s.hp w) g u v) : RG K g n a w (s.put (some t) v) := by
  refine ⟨h.defers, h.size, h.few, h.hg, fun k x hx => ?_⟩
  rw [look_put] at hx
  split at hx
  · rename_i hk; subst hk; cases hx
    obtain ⟨u, h1, h2⟩ := h.tmps _ _ hl
    exact ⟨u, h1, hv u h2⟩
  · exact h.tmps k x hx
theorem RG.recastBox (h : RG K g n a w s) {b : Nat} {cs ds : List SC} (hl : look s.hp b = some (.box cs)) (hlen : ds.length = cs.length) (hv : ∀ (j : Nat) (x y : SC), cs[j]? = some x → ds[j]? = some y → ∀ u, CRel (rdOf K g s.hp w) g u x → CRel (rdOf K g s.hp w) g u y) : RG K g n a w (s.setR b (.box ds)) := by
  refine (h.upd (r := .box ds) hl (fun b' o' hf => ?_) (Keep.refl _ _) (fun _ _ => ⟨cs, rfl⟩) (fun q => by cases q) (fun hle j y hy => ?_)).1
  · simp only [Foot, hlen] at hf ⊢; exact hf
  · have hj := (List.getElem?_eq_some_iff.1 hy).1
    obtain ⟨u, h1, h2, h3⟩ := h.hg.holds b _ hl j _ (List.getElem?_eq_getElem (by omega))
    exact ⟨u, h1, h2, (hv j _ y (List.getElem?_eq_getElem (by omega)) hy u h3).mono hle⟩
theorem RG.nilTok (h : RG K g n a w s) (d e sz : Nat) (hd6 : d < 1000000) (hf : NoName s d none) : RG K (g.setTk d (undef, .slice none 0 0) (0, 0)) n a w (s.setR d (.spare e sz 0)) :=
  (h.add (g' := g.setTk d (undef, .slice none 0 0) (0, 0)) (w' := w) (r := .spare e sz 0) hd6 hf (fun e he => by simp [Env.setTk, he]) (Ext.refl w) (fun b o hb => by
      simp [Foot, Env.setTk, Value.ownBlock] at hb) (fun hle => ⟨[], by simpa [Env.setTk] using (World.ownsRow_nil w 0 e sz).m⟩)).1
def nilT (s : St) (t d e sz : Nat) : Option St := match look s.tmps t with
  | some (.c (.lit (.slice none 0 0))) => if decide (d < 1000000) && s.noname d none then some ((s.setR d (.spare e sz 0)).put (some t) (.c (.slc sz (d + 2) 0 []))) else none
  | _ => none
theorem R.nilT {s' : St} (h : R K n a w s) {t d e sz : Nat} (hs : nilT s t d e sz = some s') : R K n a w s' := by
  obtain ⟨g, h⟩ := h
  unfold Go.Proofs.YtplihihjfjmbfaaGreat.nilT at hs
  split at hs
  · rename_i hl
    split at hs
    · rename_i hq
      simp only [Bool.and_eq_true, decide_eq_true_eq] at hq
      cases hs
      have h1 := h.nilTok d e sz hq.1 (noname_spec hq.2)
      refine ⟨_, h1.recast (t := t) hl (fun u hu => ?_)⟩
      rw [rel_lit hu]
      refine ⟨.nil sz none 0 (by simp [maxLen]), ?_⟩
      simp [Tag, Env.setTk, vlen]
    · cases hs
  · cases hs
def nilB (s : St) (b j d e sz : Nat) : Option St := match s.lookB b with
  | some cs => match cs[j]? with
    | some (.lit (.slice none 0 0)) => if decide (d < 1000000) && s.noname d none && b != d then some ((s.setR d (.spare e sz 0)).setR b (.box (cs.set j (.slc sz (d + 2) 0 [])))) else none
    | _ => none
  | none => none
theorem R.nilB {s' : St} (h : R K n a w s) {b j d e sz : Nat} (hs : nilB s b j d e sz = some s') : R K n a w s' := by
  obtain ⟨g, h⟩ := h
  unfold Go.Proofs.YtplihihjfjmbfaaGreat.nilB at hs
  split at hs
  · rename_i cs hl
    split at hs
    · rename_i hj
      split at hs
      · rename_i hq
        simp only [Bool.and_eq_true, decide_eq_true_eq, bne_iff_ne] at hq
        cases hs
        have h1 := h.nilTok d e sz hq.1.1 (noname_spec hq.1.2)
        refine ⟨_, h1.recastBox (b := b) (cs := cs) (by simp only [St.setR, look_setL]; rw [if_neg (Ne.symm hq.2)]; exact lookB_some hl) (by simp) (fun i x y hx hy u hu => ?_)⟩
        rw [List.getElem?_set] at hy
        split at hy
        · rename_i hij; subst hij
          split at hy
          · cases hy
            rw [hj] at hx
            cases hx
            have : u = .slice none 0 0 := rel_lit (g := g.setTk d (undef, .slice none 0 0) (0, 0)) hu
            subst this
            refine ⟨.nil sz none 0 (by simp [maxLen]), ?_⟩
            simp [Tag, Env.setTk, vlen]
          · cases hy
        · rw [hx] at hy; cases hy; exact hu
      · cases hs
    · cases hs
  · cases hs

def bumpN (k d : Nat) : Nat := if d < 1000000 then d + k else d
def bumpP (k d : Nat) : Bool := decide (d + k < 1000000) || decide (1000000 ≤ d)
def St.bump (s : St) (k : Nat) : Option St :=
  if s.tmps.all (fun p => p.2.every (SC.say (bumpP k))) && s.hp.all (fun p => bumpP k p.1 && p.2.every (SC.say (bumpP k))) then
    some ⟨s.tmps.map fun p => (p.1, p.2.map (SC.ren (bumpN k))), s.hp.map fun p => (bumpN k p.1, p.2.map (SC.ren (bumpN k)))⟩
  else none
theorem bump_inj {k d e : Nat} (hd : bumpP k d = true) (he : bumpP k e = true) (h : bumpN k d = bumpN k e) : d = e := by
  simp only [bumpP, Bool.or_eq_true, decide_eq_true_eq] at hd he
  unfold bumpN at h
  split at h <;> split at h <;> omega
theorem look_bump (k : Nat) : ∀ (l : Hp), (∀ p ∈ l, bumpP k p.1 = true) → ∀ d x, look (l.map fun p => (bumpN k p.1, p.2.map (SC.ren (bumpN k)))) d = some x → ∃ d0 x0, look l d0 = some x0 ∧ d = bumpN k d0 ∧ x = x0.map (SC.ren (bumpN k)) ∧ bumpP k d0 = true
  | [], _, d, x, h => by simp [look] at h
  | (e, y) :: l, hl, d, x, h => by
    simp only [List.map_cons, look_cons] at h
    split at h
    · rename_i he
      cases h
      exact ⟨e, y, by rw [look_cons, if_pos rfl], he.symm, rfl, hl (e, y) (by simp)⟩
    · rename_i he
      obtain ⟨d0, x0, h1, h2, h3, h4⟩ := look_bump k l (fun p hp => hl p (by simp [hp])) d x h
      refine ⟨d0, x0, ?_, h2, h3, h4⟩
      rw [look_cons, if_neg]
      · exact h1
      · intro hh; subst hh; exact he h2.symm
theorem R.bump {s' : St} {k : Nat} (h : R K n a w s) (hs : s.bump k = some s') : R K n a w s' := by
  obtain ⟨g, h⟩ := h
  unfold St.bump at hs
  split at hs
  rotate_left
  · cases hs
  rename_i hq
  cases hs
  simp only [Bool.and_eq_true, List.all_eq_true] at hq
  obtain ⟨hq1, hq2⟩ := hq
  let un : Nat → Nat := fun e => if e < 1000000 then e - k else e
  have hun : ∀ d, bumpP k d = true → un (bumpN k d) = d := by
    intro d hd
    simp only [bumpP, Bool.or_eq_true, decide_eq_true_eq] at hd
    simp only [un, bumpN]
    by_cases h1 : d < 1000000
    · rw [if_pos h1, if_pos (by omega)]; omega
    · rw [if_neg h1, if_neg h1]
  let g' : Env := { pos := fun e => g.pos (un e), tk := fun e => g.tk (un e) }
  have hg' : ∀ d, bumpP k d = true → g'.pos (bumpN k d) = g.pos d ∧ g'.tk (bumpN k d) = g.tk d := fun d hd => by simp only [g', hun d hd, and_self]
  have hlk := look_bump k s.hp (fun p hp => (hq2 p hp).1)
  have hfoot : ∀ d r, bumpP k d = true → Foot g' (bumpN k d) (Res.map (SC.ren (bumpN k)) r) = Foot g d r := by
    intro d r hd
    rw [foot_map]
    funext b o
    cases r <;> simp only [Foot, (hg' d hd).1, (hg' d hd).2]
  have hin : ∀ b o, InFoot g' (s.hp.map fun p => (bumpN k p.1, p.2.map (SC.ren (bumpN k)))) b o → InFoot g s.hp b o := by
    rintro b o ⟨d, r, h1, h2⟩
    obtain ⟨d0, x0, q1, rfl, rfl, q4⟩ := hlk d r h1
    rw [hfoot d0 x0 q4] at h2
    exact ⟨d0, x0, q1, h2⟩
  have hin2 : ∀ b o, InFoot g s.hp b o → InFoot g' (s.hp.map fun p => (bumpN k p.1, p.2.map (SC.ren (bumpN k)))) b o := by
    rintro b o ⟨d, r, h1, h2⟩
    have hb := (hq2 _ (look_mem h1)).1
    refine ⟨bumpN k d, r.map (SC.ren (bumpN k)), ?_, by rw [hfoot d r hb]; exact h2⟩
    have gen : ∀ (l : Hp), (∀ p ∈ l, bumpP k p.1 = true) → look l d = some r → look (l.map fun p => (bumpN k p.1, p.2.map (SC.ren (bumpN k)))) (bumpN k d) = some (r.map (SC.ren (bumpN k))) := by
      intro l hl hd
      induction l with
      | nil => simp [look] at hd
      | cons p l ih =>
        obtain ⟨e, y⟩ := p
        simp only [List.map_cons, look_cons] at hd ⊢
        split at hd
        · rename_i he; subst he; cases hd; rw [if_pos rfl]
        · rename_i he
          rw [if_neg (fun q => he (bump_inj (hl (e, y) (by simp)) hb q))]
          exact ih (fun p hp => hl p (by simp [hp])) hd
    exact gen s.hp (fun p hp => (hq2 p hp).1) h1
  have hrd : rdOf K g' (s.hp.map fun p => (bumpN k p.1, p.2.map (SC.ren (bumpN k)))) w = rdOf K g s.hp w := by
    funext b o
    unfold rdOf
    by_cases hx : InFoot g s.hp b o
    · rw [if_pos hx, if_pos (hin2 b o hx)]
    · rw [if_neg hx, if_neg (fun q => hx (hin b o q))]
  refine ⟨g', h.defers, h.size, h.few, ⟨h.hg.keep, fun d r hd => ?_, fun b o hx => h.hg.may b o (hin b o hx), fun d d' r r' b o hne h1 h2 h3 h4 => ?_, fun d cs h6 hd => ?_, fun d r hd hb b o hf => ?_⟩, fun t v hv => ?_⟩
  · obtain ⟨d0, x0, q1, rfl, rfl, q4⟩ := hlk d r hd
    simp only [hrd]
    exact (h.hg.holds d0 x0 q1).ren (Rd.le.refl _) (bumpN k) (bumpP k) hg' q4 (hq2 _ (look_mem q1)).2
  · obtain ⟨d0, x0, q1, rfl, rfl, q4⟩ := hlk d r h1
    obtain ⟨e0, y0, k1, rfl, rfl, k4⟩ := hlk d' r' h2
    rw [hfoot d0 x0 q4] at h3
    rw [hfoot e0 y0 k4] at h4
    exact h.hg.dis d0 e0 x0 y0 b o (fun q => hne (by rw [q])) q1 k1 h3 h4
  · obtain ⟨d0, x0, q1, rfl, q3, q4⟩ := hlk d _ hd
    have hd0 : bumpN k d0 = d0 := by
      unfold bumpN at h6 ⊢
      simp only [bumpP, Bool.or_eq_true, decide_eq_true_eq] at q4
      by_cases h1 : d0 < 1000000
      · rw [if_pos h1] at h6; omega
      · rw [if_neg h1]
    rw [(hg' d0 q4).1, hd0]
    cases x0 with
    | box cs0 => exact h.hg.fix d0 cs0 (by rw [hd0] at h6; exact h6) q1
    | row e s n xs => cases q3
    | spare e s n => cases q3
    | mp L => cases q3
  · obtain ⟨d0, x0, q1, rfl, rfl, q4⟩ := hlk d r hd
    rw [hfoot d0 x0 q4] at hf
    exact h.hg.new d0 x0 q1 (by cases x0 <;> simp_all [Res.isBox, Res.map]) b o hf
  · simp only [look_map (fun v => SV.map (SC.ren (bumpN k)) v)] at hv
    obtain ⟨v0, hv0, rfl⟩ := Option.map_eq_some_iff.1 hv
    obtain ⟨u, k1, k2⟩ := h.tmps t v0 hv0
    simp only [hrd]
    exact ⟨u, k1, k2.imp (fun v x hx k' => k'.ren (Rd.le.refl _) (bumpN k) (bumpP k) hg' hx) (hq1 _ (look_mem hv0))⟩
end

section
variable {P : Program} {K : Ctx} {n : Nat} {Q : Exit → St → Prop} {C : Cfg} {α : Type}
def Cfg.st2 (C : Cfg) (s : Option St) : Cfg := match s with
  | some s => C.withS s
  | none => .bad
theorem TS_st2 {s : Option St} (hR : ∀ a w s', s = some s' → R K n a w C.st → R K n a w s') (he : C.pre = true) (k : TS P K n (C.st2 s) Q) : TS P K n C Q := by
  cases s with
  | none => exact k.elim
  | some s' => exact TS_state s' (fun a w r => hR a w s' rfl r) he k
theorem TS_nilT (t d e sz : Nat) (he : C.pre = true) (k : TS P K n (C.st2 (nilT C.st t d e sz)) Q) : TS P K n C Q := TS_st2 (fun _ _ _ hs r => r.nilT hs) he k
theorem TS_nilB (b j d e sz : Nat) (he : C.pre = true) (k : TS P K n (C.st2 (nilB C.st b j d e sz)) Q) : TS P K n C Q := TS_st2 (fun _ _ _ hs r => r.nilB hs) he k
theorem TS_bump (b : Nat) (he : C.pre = true) (k : TS P K n (C.st2 (C.st.bump b)) Q) : TS P K n C Q := TS_st2 (fun _ _ _ hs r => r.bump hs) he k
theorem TS_appT {d e sz by_ N : Nat} (f : α → List SC) (hone : ∀ x, (f x).all SC.one = true) {l1 l2 l' : List α} {c : Cut} (he : appO by_ l1 (c.app l2) = some l') (h : C.with1 (appTArgs P) = some (d, e, sz, by_, N, N, l1.map f, l2.map f, c)) (hg : C.go1 n = true)
    (k : TS P K n (C.next ((C.st.setR d (.spare e sz l'.length)).put C.dst (.c (.slc sz (d + 2) l'.length (l'.map f))))) Q) : TS P K n C Q := by
  obtain ⟨os, o, ho, h1, h2, h3⟩ := go1_spec hg
  rw [h3] at k
  exact TS_stp ho (S_appT f hone he (with1_op h ho) h1 h2) k
/-- a row of its own is made: d the place of the result -/
def Cfg.okNew (n d : Nat) (C : Cfg) : Bool := C.go1 n && (match C.dst with | some t => t == d | none => false) && decide (d < 1000000) && C.st.noname d (some d)
theorem okNew_spec {d : Nat} (h : C.okNew n d = true) : ∃ os o, C.op = some (os, o) ∧ guardOf os o C.st = some true ∧ o.dst = some d ∧ d < n ∧ d < 1000000 ∧ NoName C.st d (some d) := by
  simp only [Cfg.okNew, Bool.and_eq_true, decide_eq_true_eq] at h
  obtain ⟨⟨⟨h1, h2⟩, h3⟩, h4⟩ := h
  obtain ⟨os, o, ho, k1, k2, k3⟩ := go1_spec h1
  rw [k3] at h2
  have hd : o.dst = some d := by
    cases hq : o.dst with
    | none => rw [hq] at h2; cases h2
    | some t => rw [hq] at h2; simp at h2; rw [h2]
  exact ⟨os, o, ho, k1, hd, dstOk_spec k2 d hd, h3, noname_spec h4⟩
theorem TS_ownT {e sz : Nat} {xs : List (List SC)} (d : Nat) (hp : ∀ os o, C.op = some (os, o) → OwnOp P o C.st e sz xs) (hg : C.okNew n d = true) (k : TS P K n (C.next ((C.st.setR d (.spare e sz xs.length)).put (some d) (.c (.slc sz (d + 2) xs.length xs)))) Q) : TS P K n C Q := by
  obtain ⟨os, o, ho, h1, h2, h3, h4, h5⟩ := okNew_spec hg
  exact TS_stp ho (S_ownT d (hp os o ho) h1 h2 h3 h4 h5) k
theorem TS_ownR {e sz : Nat} {xs : List (List SC)} (d : Nat) (hp : ∀ os o, C.op = some (os, o) → OwnOp P o C.st e sz xs) (hg : C.okNew n d = true) (k : TS P K n (C.next ((C.st.setR d (.row e sz xs.length xs)).put (some d) (.c (.own d)))) Q) : TS P K n C Q := by
  obtain ⟨os, o, ho, h1, h2, h3, h4, h5⟩ := okNew_spec hg
  exact TS_stp ho (S_ownR d (hp os o ho) h1 h2 h3 h4 h5) k
end
end
section
open Go.RowKit

section
variable {P : Program} {o : Oper} {s : St} {α : Type}
def appNArgs (P : Program) (s : St) (o : Oper) : Option (Nat × Nat × Nat × List (List SC) × Cut) := match o.op with
  | .call { callee := .builtin .append, args := xs, argTypes := ts } => match xs.toList, ts.toList with
    | [x, y], [t, t'] => match P.underlying t with
      | some (.slice e) => match P.info? e with
        | some ie => match opd s x, (opd s y).bind (srcS s ie.size) with
          | some (.c (.lit (.slice none 0 0))), some (b, c) => if t = t' ∧ ie.zero.map (·.cells.size) = some ie.size ∧ 0 < ie.size then some (e, ie.size, ie.bytes, b, c) else none
          | _, _ => none
        | none => none
      | _ => none
    | _, _ => none
  | _ => none
theorem own_appN {e sz by_ : Nat} (f : α → List SC) (_hone : ∀ x, (f x).all SC.one = true) {l2 l' : List α} {c : Cut} (he : appO by_ ([] : List α) (c.app l2) = some l') (h : appNArgs P s o = some (e, sz, by_, l2.map f, c)) : OwnOp P o s e sz (l'.map f) := by
  unfold appNArgs at h
  split at h
  rotate_left
  · cases h
  rename_i xs ts ho
  split at h
  rotate_left
  · cases h
  rename_i x y t t' hxs hts
  have hxs' : xs = #[x, y] := by rw [← Array.toArray_toList (xs := xs), hxs]
  have hts' : ts = #[t, t'] := by rw [← Array.toArray_toList (xs := ts), hts]
  subst hxs'
  subst hts'
  split at h
  rotate_left
  · cases h
  rename_i e1 hu
  split at h
  rotate_left
  · cases h
  rename_i ie hi
  split at h
  rotate_left
  · cases h
  rename_i b1 c1 hx hy
  split at h
  rotate_left
  · cases h
  rename_i hq
  obtain ⟨rfl, hz, hs0⟩ := hq
  cases h
  obtain ⟨z, hz, hzc⟩ := Option.map_eq_some_iff.1 hz
  simp only [appO] at he
  split at he
  rotate_left
  · cases he
  rename_i hb
  cases he
  intro g rd a w hview
  obtain ⟨vy, hy1, hy2⟩ := Option.bind_eq_some_iff.1 hy
  have hvx := rel_lit (hview.op x _ (by simp [ho, Op.operands, Call.operands]) hx)
  have hsrc := srcS_rel hy2 hview (hview.op y _ (by simp [ho, Op.operands, Call.operands]) hy1)
  rw [Cut.map] at hsrc
  simp only [execOp, ho, resolve, invoke, builtin, Sem.run_bind, Sem.run_pure, Result.andThen_ok, List.map_toArray, List.map_cons, List.map_nil]
  rw [hvx]
  generalize hvy : a.eval y = uy at *
  obtain ⟨ay, cy, vals, rfl, hlv, hrow, hwhere, _⟩ := hsrc
  rw [List.length_map] at hlv ⊢
  generalize hl2' : c.app l2 = l2' at *
  simp only [List.nil_append, List.length_nil, Nat.zero_add] at hb ⊢
  by_cases hl2 : l2' = []
  · subst hl2
    simp only [List.length_nil, List.map_nil]
    rw [run_append_zero t o.type e ie hu hi none ay 0 0 cy (Nat.le_refl _)]
    simp only [Result.andThen_ok]
    exact ⟨_, _, [], rfl, Ext.refl w, World.ownsRow_nil w 0 e ie.size, by simp [Value.ownBlock], by simp, by simp⟩
  have hpos : 0 < l2'.length := List.length_pos_iff.2 hl2
  obtain ⟨ad, rfl, hcells⟩ : ∃ ad, ay = some ad ∧ ∀ j v, vals[j]? = some v → w.cell? (ad.add j) = some v := by
    rcases hwhere with h0 | h0
    · exact absurd (List.map_eq_nil_iff.1 h0) hl2
    · exact h0
  have hr := run_append_nil (P := P) w t o.type e ie z hu hi hz ad l2'.length cy vals hlv hcells hpos (by omega) (by omega)
  rw [hr]
  simp only [Result.andThen_ok]
  have hge := grownCap_ge w l2'.length 0 e
  have hcm := grownCap_le_maxLen w l2'.length 0 e (by unfold maxLen; omega)
  refine ⟨_, _, vals, rfl, (Ext.drew w).trans (Ext.alloc _ _), ⟨by rw [hlv, List.length_map], .inr ⟨w.heap.size, grownCap w l2'.length 0 e, _, by rw [List.length_map], Nat.zero_le _, heap_alloc_new w.drew _, by rw [List.length_map]; exact hge, hcm, ?_, ?_⟩⟩, fun b hb' => ?_, hrow⟩
  · simp only [Array.size_append, List.size_toArray, size_zeroCells, hzc, hlv, ← Nat.add_mul]
    congr 1
    omega
  · rw [List.length_map, Array.toList_append, List.toList_toArray, ← hlv]
    exact List.take_left
  · simp only [Value.ownBlock, Option.some.injEq] at hb'; omega

def litRArgs (P : Program) (ks : List Nat) (s : St) (o : Oper) : Option (Nat × Nat × List (List SC)) := match o.op with
  | .buildSlice t len parts => match P.underlying t with
    | some (.slice e) => match P.info? e with
      | some ie => if len = 0 then (if parts.size = 0 then some (e, ie.size, []) else none) else if decide (0 < len * ie.size ∧ len * ie.size ≤ 16777216) && ie.zero.isSome then match buildL P s e len ks parts.toList with
          | some xs => some (e, ie.size, xs)
          | none => none
        else none
      | none => none
    | _ => none
  | _ => none
theorem own_litS {e sz : Nat} {xs : List (List SC)} {ks : List Nat} (h : litRArgs P ks s o = some (e, sz, xs)) : OwnOp P o s e sz xs := by
  unfold litRArgs at h
  split at h
  rotate_left
  · cases h
  rename_i t len parts ho
  split at h
  rotate_left
  · cases h
  rename_i e1 hu
  split at h
  rotate_left
  · cases h
  rename_i ie hie
  split at h
  · rename_i hl0
    subst hl0
    split at h
    rotate_left
    · cases h
    rename_i hp0
    cases h
    have hp : parts = #[] := Array.eq_empty_of_size_eq_zero hp0
    subst hp
    intro g rd a w hview
    have hrun : (Instr.buildSlice t 0 #[]).run P w = .ok (.slice (some ⟨w.heap.size, 0, none⟩) 0 0) (w.alloc (.cells #[] e)) := by
      simp [Instr.buildSlice, run_underlying hu, sizeOf, typeInfo, hie, Instr.fill, newRow, newObj, Sem.run_bind, Sem.run, program]
      rw [show Array.range 0 = #[] from Array.eq_empty_of_size_eq_zero (by simp), Array.map_empty]
    simp only [execOp, ho, Sem.run_bind, Array.map_empty, hrun, Result.andThen_ok, Sem.run_pure]
    exact ⟨_, _, [], rfl, Ext.alloc _ _, ⟨by simp, .inr ⟨w.heap.size, 0, #[], rfl, Nat.zero_le _, heap_alloc_new w _, Nat.le_refl _, by simp [maxLen], by simp, by simp⟩⟩, fun b hb => by simp only [Value.ownBlock, Option.some.injEq] at hb; omega, by simp, by simp⟩
  split at h
  rotate_left
  · cases h
  rename_i hpos
  simp only [Bool.and_eq_true, decide_eq_true_eq] at hpos
  obtain ⟨hpos', hz'⟩ := hpos
  split at h
  rotate_left
  · cases h
  rename_i xs' hb
  cases h
  intro g rd a w hview
  unfold buildL at hb
  rw [hie] at hb
  split at hb
  rotate_left
  · cases hb
  rename_i ie' ps hie' hps
  cases hie'
  split at hb
  rotate_left
  · cases hb
  rename_i z hz
  split at hb
  rotate_left
  · cases hb
  rename_i cs hcs
  split at hb
  rotate_left
  · cases hb
  rename_i cs' hcs'
  cases hb
  obtain ⟨l1, l2⟩ := parts_rel hview hps (fun i p hp => by rw [ho]; simp only [Op.operands]; exact parts_mem hp)
  obtain ⟨r, hr1, hr2⟩ := fill_rel _ ps _ _ cs l1 l2 (lits_rel rd g _) hcs
  have hrun := run_buildSlice (P := P) w t e len _ r ie z hu hie hz (by omega) (by omega) hr1
  simp only [execOp, ho, Sem.run_bind, hrun, Result.andThen_ok, Sem.run_pure]
  obtain ⟨h5, h6⟩ := immL_get cs cs' hcs'
  have hrs : r.size = len * ie.size := by
    have hfl : ∀ (ps : List (Nat × Value)) (c c' : Array Value), Instr.fill (fun i => some (i * ie.size, ie.size)) c ps = some c' → c'.size = c.size := by
      intro ps
      induction ps with
      | nil => intro c c' hc; cases hc; rfl
      | cons p ps ih =>
        intro c c' hc
        obtain ⟨j, v⟩ := p
        simp only [Instr.fill] at hc
        split at hc
        · cases hc
        · have := ih _ _ hc
          rw [this]
          have e' : Array.foldl (fun cs (x : Value × Nat) => match x with | (c, j') => cs.setIfInBounds (j * ie.size + j') c) c v.cells.zipIdx = (v.cells.toList.zipIdx 0).foldl (fun cs (p : Value × Nat) => cs.setIfInBounds (j * ie.size + p.2) p.1) c := by
            rw [← Array.foldl_toList, Array.toList_zipIdx]
          have e2 : Array.foldl (fun cs (x : Value × Nat) => cs.setIfInBounds (j * ie.size + x.2) x.1) c v.cells.zipIdx = (v.cells.toList.zipIdx 0).foldl (fun cs (p : Value × Nat) => cs.setIfInBounds (j * ie.size + p.2) p.1) c := e'
          first
            | rw [e']
            | rw [e2]
          exact (foldl_set (j * ie.size) v.cells.toList 0 c).1
    rw [hfl _ _ _ hr1]
    simp
  have hcl : cs'.length = len * ie.size := by rw [← h5, ← hr2.1, hrs]
  have hlen : ((chunks ie.size len cs').map (castL ks)).length = len := by rw [List.length_map, chunks_length]
  refine ⟨_, _, r.toList, rfl, Ext.alloc _ _, ⟨by rw [hlen, Array.length_toList, hrs], .inr ⟨w.heap.size, len, r, by rw [hlen], Nat.zero_le _, heap_alloc_new w _, by rw [hlen]; exact Nat.le_refl _, ?_, hrs, ?_⟩⟩, fun b hb' => by simp only [Value.ownBlock, Option.some.injEq] at hb'; omega, ⟨fun x hx => ?_, fun i x j y hx hy => ?_⟩⟩
  · unfold maxLen
    have : len ≤ len * ie.size := Nat.le_mul_of_pos_right _ (Nat.pos_of_ne_zero (fun h0 => by rw [h0] at hpos'; simp at hpos'))
    omega
  · rw [hlen, ← hrs, ← Array.length_toList, List.take_length]
  · obtain ⟨x0, hx0, rfl⟩ := List.mem_map.1 hx
    obtain ⟨i, hi⟩ := List.getElem?_of_mem hx0
    rw [castL_length]
    exact (chunks_get ie.size len cs' i x0 (by omega) hi).1
  · rw [List.getElem?_map] at hx
    obtain ⟨x0, hx0, rfl⟩ := Option.map_eq_some_iff.1 hx
    obtain ⟨k, y0, hy0, rfl⟩ := castL_get ks x0 j y hy
    have h7 := (chunks_get ie.size len cs' i x0 (by omega) hx0).2 j y0 hy0
    obtain ⟨y1, h8, h9⟩ := h6 _ y0 h7
    obtain ⟨u, h10, h11⟩ := hr2.2 _ y1 h8
    exact ⟨u, by simpa using h10, cast1_imm k (imm_rel h11 h9)⟩

theorem _root_.Nat.mul_add_mod_of_lt' {i s j : Nat} (h : j < s) : (i * s + j) % s = j := by rw [Nat.mul_comm, Nat.mul_add_mod, Nat.mod_eq_of_lt h]
def mkO (by_ : Nat) (l c : Int) : Option Nat := if 0 ≤ l ∧ l ≤ c ∧ (by_ : Int) * c ≤ 281474976710656 ∧ c ≤ 140737488355328 then some l.toNat else none
def makeArgs (P : Program) (s : St) (o : Oper) : Option (Nat × Nat × Nat × List SC × Int × Int) := match o.op with
  | .makeSlice t x y => match P.underlying t, opd s x, opd s y with
    | some (.slice e), some (.c (.lit (.int _ l))), some (.c (.lit (.int _ c))) => match P.info? e with
      | some ie => match ie.zero with
        | some z => if z.cells.size = ie.size ∧ 0 < ie.size then some (e, ie.size, ie.bytes, z.cells.toList.map SC.lit, l, c) else none
        | none => none
      | none => none
    | _, _, _ => none
  | _ => none
theorem own_make {e sz by_ : Nat} (f : α → List SC) (z0 : α) (ks : List Nat) {cs : List SC} {l c : Int} {m : Nat} (he : mkO by_ l c = some m) (h : makeArgs P s o = some (e, sz, by_, cs, l, c)) (hf : castL ks cs = f z0) : OwnOp P o s e sz ((List.replicate m z0).map f) := by
  unfold makeArgs at h
  split at h
  rotate_left
  · cases h
  rename_i t x y ho
  split at h
  rotate_left
  · cases h
  rename_i e1 kl l1 kc c1 hu hx hy
  split at h
  rotate_left
  · cases h
  rename_i ie hie
  split at h
  rotate_left
  · cases h
  rename_i z hz
  split at h
  rotate_left
  · cases h
  rename_i hq
  cases h
  obtain ⟨hzs, hs0⟩ := hq
  simp only [mkO] at he
  split at he
  rotate_left
  · cases he
  rename_i hb
  cases he
  obtain ⟨b1, b2, b3, b4⟩ := hb
  intro g rd a w hview
  have hvx := rel_lit (hview.op x _ (by simp [ho, Op.operands]) hx)
  have hvy := rel_lit (hview.op y _ (by simp [ho, Op.operands]) hy)
  have hrun := run_make (P := P) w t e ie z hu hie hz kl kc l c b1 b2 b3 (by omega)
  simp only [execOp, ho, Sem.run_bind, hvx, hvy, hrun, Result.andThen_ok, Sem.run_pure]
  have hzl : (f z0).length = ie.size := by rw [← hf, castL_length, List.length_map, Array.length_toList, hzs]
  have hlen : ((List.replicate l.toNat z0).map f).length = l.toNat := by simp
  have hms : (madeCells z.cells (c.toNat * ie.size)).size = c.toNat * ie.size := size_madeCells _ _
  have hlc : l.toNat ≤ c.toNat := by omega
  have hlcs : l.toNat * ie.size ≤ c.toNat * ie.size := Nat.mul_le_mul_right _ hlc
  refine ⟨_, _, (madeCells z.cells (c.toNat * ie.size)).toList.take (l.toNat * ie.size), rfl, Ext.alloc _ _, ⟨by rw [hlen, List.length_take, Array.length_toList, hms]; omega, .inr ⟨w.heap.size, c.toNat, _, by rw [hlen], Nat.zero_le _, heap_alloc_new w _, by rw [hlen]; exact hlc, by unfold maxLen; omega, hms, by rw [hlen]⟩⟩, fun b hb' => by simp only [Value.ownBlock, Option.some.injEq] at hb'; omega, ⟨fun x hx => ?_, fun i x j y hx hy => ?_⟩⟩
  · obtain ⟨x0, hx0, rfl⟩ := List.mem_map.1 hx
    rw [(List.mem_replicate.1 hx0).2]; exact hzl
  · rw [List.getElem?_map] at hx
    obtain ⟨x0, hx0, rfl⟩ := Option.map_eq_some_iff.1 hx
    have hi : i < l.toNat := by have := (List.getElem?_eq_some_iff.1 hx0).1; simpa using this
    have hx1 : x0 = z0 := by rw [List.getElem?_replicate, if_pos hi] at hx0; cases hx0; rfl
    subst hx1
    have hj : j < ie.size := by have := (List.getElem?_eq_some_iff.1 hy).1; omega
    rw [← hf] at hy
    obtain ⟨k, y0, hy0, rfl⟩ := castL_get ks _ j y hy
    rw [List.getElem?_map] at hy0
    obtain ⟨u, hu', rfl⟩ := Option.map_eq_some_iff.1 hy0
    refine ⟨u, ?_, cast1_imm k (.lit u)⟩
    have hij : i * ie.size + j < l.toNat * ie.size := by
      have : (i + 1) * ie.size ≤ l.toNat * ie.size := Nat.mul_le_mul_right _ hi
      rw [Nat.add_mul, Nat.one_mul] at this
      omega
    rw [List.getElem?_take, if_pos hij]
    simp only [madeCells, Array.getElem?_toList, Array.getElem?_map]
    rw [Array.getElem?_eq_getElem (by simp; omega)]
    simp only [Option.map_some, Array.getElem_range, Option.some.injEq]
    rw [hzs, Nat.mul_add_mod_of_lt' hj]
    rw [Array.getElem?_toList] at hu'
    rw [getElem!_def, hu']
end
end
section
open Go.RowKit

theorem splice_get {α : Type} (us vals : List α) (p : Nat) (h : p + vals.length ≤ us.length) (q : Nat) : (us.take p ++ vals ++ us.drop (p + vals.length))[q]? = if p ≤ q ∧ q < p + vals.length then vals[q - p]? else us[q]? := by
  rw [List.append_assoc, List.getElem?_append]
  simp only [List.length_take, Nat.min_eq_left (by omega : p ≤ us.length)]
  by_cases h1 : q < p
  · rw [if_pos h1, List.getElem?_take, if_pos h1, if_neg (by omega)]
  · rw [if_neg h1, List.getElem?_append]
    by_cases h2 : q - p < vals.length
    · rw [if_pos h2, if_pos (by omega)]
    · rw [if_neg h2, List.getElem?_drop, if_neg (by omega)]
      congr 1
      omega

theorem own_write {w : World} {e sz n : Nat} {V : Value} {us : List Value} (hown : w.ownsRow 0 e sz V n us) {b : Nat} (hb : V.ownBlock = some b) (p : Nat) (vals : List Value) (hp : p + vals.length ≤ n * sz) :
    (w.setCells b p vals).ownsRow 0 e sz V n (us.take p ++ vals ++ us.drop (p + vals.length)) ∧ Keep w (fun b' _ => V.ownBlock = some b') (w.setCells b p vals) := by
  have hk := Keep.setCells b vals p w
  refine ⟨?_, hk.weak (fun b' o' h => by rw [h.1]; exact hb)⟩
  have hul : us.length = n * sz := hown.1
  refine ⟨by simp only [List.length_append, List.length_take, List.length_drop]; omega, .inr ?_⟩
  rcases hown.2 with ⟨rfl, _⟩ | ⟨gb, cap, cur, rfl, h1, h2, h3, h4, h5, h6⟩
  · cases hb
  simp only [Value.ownBlock, Option.some.injEq] at hb
  subst hb
  have hlt := (Array.getElem?_eq_some_iff.1 h2).1
  have hcur : ∀ k, k < n * sz → w.cell? ⟨gb, k, none⟩ = us[k]? := fun k hk' => by
    rw [← h6, List.getElem?_take, if_pos hk']
    simp only [World.cell?, h2]
    simp
  obtain ⟨c', hc1, hc2⟩ : ∃ c' : Array Value, (w.setCells gb p vals).heap[gb]? = some (.cells c' e (0, 0)) ∧ c'.size = cur.size := by
    rcases hk.block gb hlt with e' | ⟨c, c', e', f, q1, q2, q3, q4⟩ | ⟨_, es, q, es', q', q1, _⟩
    · exact ⟨cur, by rw [e']; exact h2, rfl⟩
    · rw [h2] at q1
      cases q1
      exact ⟨c', q2, q3⟩
    · rw [h2] at q1
      cases q1
  have hle : n * sz ≤ cap * sz := Nat.mul_le_mul_right _ h3
  refine ⟨gb, cap, c', rfl, h1, hc1, h3, h4, by rw [hc2]; exact h5, ?_⟩
  apply List.ext_getElem?
  intro k
  rw [splice_get us vals p (by omega), List.getElem?_take]
  by_cases hkn : k < n * sz
  · rw [if_pos hkn]
    have hcell : (w.setCells gb p vals).cell? ⟨gb, k, none⟩ = c'.toList[k]? := by
      simp only [World.cell?, hc1]; simp
    rw [← hcell]
    split
    · rename_i hin
      have := World.cell?_setCells_in gb vals p w (fun j hj => by rw [hcur _ (by omega), List.getElem?_eq_getElem (by omega)]; rfl) (k - p) (by omega)
      rw [show p + (k - p) = k by omega] at this
      rw [this, List.getElem?_eq_getElem]
    · rename_i hin
      rw [List.getElem?_eq_getElem (by omega)]
      have h7 := hcur k hkn
      rw [List.getElem?_eq_getElem (by omega)] at h7
      exact hk.cell h7 (fun q => hin ⟨q.2.1, q.2.2⟩)
  · rw [if_neg hkn, if_neg (by omega), List.getElem?_eq_none (by omega)]

def UpdOp (P : Program) (o : Oper) (s : St) (d : Nat) (r0 r : Res) (v : SV) : Prop :=
  look s.hp d = some r0 ∧ (r0.isBox = r.isBox) ∧ (∀ g b o, Foot g d r b o → Foot g d r0 b o) ∧ ∀ g rd a w, OView g rd a w s o →
    ∃ nx w', (execOp a.eval o).run P w = .ok nx w' ∧ Keep w (Foot g d r0) w' ∧ ((nx = .skip ∧ o.dst = none) ∨ ∃ u, nx = .value u ∧ ∀ rd', rd.le rd' → VRel rd' g u v) ∧ ∀ rd', rd.le rd' → Holds rd' g w' d r
section
variable {P : Program} {K : Ctx} {n : Nat} {ops : Array Oper} {o : Oper} {s : St} {d : Nat} {r0 r : Res} {v : SV}
theorem Sub.upd {s s' : St} (h : Sub s s') (hp : UpdOp P o s d r0 r v) : UpdOp P o s' d r0 r v :=
  ⟨h.h _ _ hp.1, hp.2.1, hp.2.2.1, fun g rd a w hv => hp.2.2.2 g rd a w ⟨fun x v hx hq => hv.op x v hx (h.opd hq), hv.reads, fun d r hd => hv.holds d r (h.h d r hd)⟩⟩
theorem S_upd (hp : UpdOp P o s d r0 r v) (hgd : guardOf ops o s = some true) (hd : dstOk n o = true) : Stp P K n ops o s ((s.setR d r).put o.dst v) := by
  refine Stp_mk hgd fun g a w rg K' Q hK => ?_
  obtain ⟨h1, h2, h3, h4⟩ := hp
  obtain ⟨nx, w', k1, k2, k3, k4⟩ := h4 _ _ _ _ (rg.view.o o)
  obtain ⟨r1, hle⟩ := rg.upd (r := r) (w' := w') h1 (h3 g) k2 (fun cs hq => by
    subst hq
    cases r0 with
    | box cs0 => exact ⟨cs0, rfl⟩
    | row _ _ _ _ => cases h2
    | spare _ _ _ => cases h2
    | mp _ => cases h2) (fun hq => by rw [h2]; exact hq) (fun hle => k4 _ hle)
  unfold Oper.wp
  rw [k1]
  rcases k3 with ⟨rfl, k5⟩ | ⟨u, rfl, k5⟩
  · simp only [Oper.upon]
    rw [k5] at hK ⊢
    exact hK _ _ ⟨_, r1⟩
  · simp only [Oper.upon]
    exact hK _ _ ⟨_, r1.put o.dst (dstOk_spec hd) (k5 _ hle)⟩
end

section
variable {P : Program} {o : Oper} {s : St} {α : Type}
def rowOfS (s : St) : SV → Option (Nat × Nat × Nat × Nat × List (List SC) × Cut × Nat)
  | .c (.own d) => match look s.hp d with
    | some (.row e sz N xs) => some (d, e, sz, N, xs, .whole, 0)
    | _ => none
  | .c (.ex d) => match look s.hp d with
    | some (.row e sz N xs) => some (d, e, sz, N, xs, .whole, 0)
    | _ => none
  | .c (.row d m) => match look s.hp d with
    | some (.row e sz N xs) => some (d, e, sz, N, xs, .part 0 m, 0)
    | _ => none
  | .c (.sub d s1 a m) => match look s.hp d with
    | some (.row e sz N xs) => if s1 = sz then some (d, e, sz, N, xs, .part a m, a) else none
    | _ => none
  | _ => none
structure RowView (g : Env) (rd : Rd) (w : World) (u : Value) (d e sz N : Nat) (xs : List (List SC)) (c : Cut) (a : Nat) : Prop where
  own : ∃ us, w.ownsRow 0 e sz (g.tk d).1 N us ∧ xs.length = N ∧ RowIs rd sz us xs
  val : ∃ x cap, u = .slice x (c.app xs).length cap ∧ (c.app xs).length ≤ cap ∧ cap ≤ maxLen ∧ a + (c.app xs).length ≤ N ∧ ((c.app xs).length = 0 ∨ ∃ b, (g.tk d).1.ownBlock = some b ∧ x = some ⟨b, a * sz, none⟩)
  get : ∀ i, (c.app xs)[i]? = if i < (c.app xs).length then xs[a + i]? else none
theorem rowOfS_rel {v : SV} {d e sz N a : Nat} {xs : List (List SC)} {c : Cut} (h : rowOfS s v = some (d, e, sz, N, xs, c, a)) {g : Env} {rd : Rd} {ac : Act} {w : World} {o : Oper} (hv : OView g rd ac w s o) {u : Value} (hu : VRel rd g u v) : look s.hp d = some (.row e sz N xs) ∧ RowView g rd w u d e sz N xs c a := by
  unfold rowOfS at h
  split at h
  · split at h
    · rename_i d' e' sz' N' xs' hl
      cases h
      obtain ⟨us, h1, h2, h3⟩ := hv.holds _ _ hl
      obtain ⟨rfl, _⟩ := hu
      obtain ⟨b, c, h4, h5, h6, _, h7⟩ := tk_slice h1
      refine ⟨hl, ⟨us, h1, h2, h3⟩, ⟨b, c, by simp only [Cut.app]; rw [h2]; exact h4, by simp only [Cut.app]; omega, h6, by simp only [Cut.app]; omega, ?_⟩, fun i => ?_⟩
      · rcases h7 with h7 | ⟨bb, h7, h8⟩
        · left; simp only [Cut.app]; omega
        · exact .inr ⟨bb, h8, by rw [h7, Nat.zero_mul]⟩
      · simp only [Cut.app, Nat.zero_add]
        split
        · rfl
        · exact List.getElem?_eq_none (by omega)
    · cases h
  · split at h
    · rename_i d' e' sz' N' xs' hl
      cases h
      obtain ⟨us, h1, h2, h3⟩ := hv.holds _ _ hl
      obtain ⟨rfl, _⟩ := hu
      obtain ⟨b, c, h4, h5, h6, _, h7⟩ := tk_slice h1
      refine ⟨hl, ⟨us, h1, h2, h3⟩, ⟨b, c, by simp only [Cut.app]; rw [h2]; exact h4, by simp only [Cut.app]; omega, h6, by simp only [Cut.app]; omega, ?_⟩, fun i => ?_⟩
      · rcases h7 with h7 | ⟨bb, h7, h8⟩
        · left; simp only [Cut.app]; omega
        · exact .inr ⟨bb, h8, by rw [h7, Nat.zero_mul]⟩
      · simp only [Cut.app, Nat.zero_add]
        split
        · rfl
        · exact List.getElem?_eq_none (by omega)
    · cases h
  · rename_i d' m
    split at h
    · rename_i e' sz' N' xs' hl
      cases h
      obtain ⟨us, h1, h2, h3⟩ := hv.holds _ _ hl
      obtain ⟨a', N2, c', k1, rfl, k3⟩ := hu
      obtain ⟨b, c, h4, h5, h6, _, h7⟩ := tk_slice h1
      rw [h4] at k1
      cases k1
      have hlen : (Cut.app (.part 0 m) xs).length = m := by simp only [Cut.app, List.drop_zero, List.length_take]; omega
      refine ⟨hl, ⟨us, h1, h2, h3⟩, ⟨_, _, by rw [hlen], by rw [hlen]; omega, h6, by rw [hlen]; omega, ?_⟩, fun i => ?_⟩
      · rw [hlen]
        rcases h7 with h7 | ⟨bb, h7, h8⟩
        · left; omega
        · exact .inr ⟨bb, h8, by rw [h7, Nat.zero_mul]⟩
      · rw [hlen, Nat.zero_add]
        simp only [Cut.app, List.drop_zero, List.getElem?_take]
    · cases h
  · rename_i d' s1 a' m
    split at h
    · rename_i e' sz' N' xs' hl
      split at h
      · rename_i hs; subst hs
        cases h
        obtain ⟨us, h1, h2, h3⟩ := hv.holds _ _ hl
        obtain ⟨b, N2, c, x, c', k1, k2, rfl, k4, k5, k6⟩ := hu
        obtain ⟨b', c2, h4, h5, h6, _, h7⟩ := tk_slice h1
        rw [h4] at k1
        cases k1
        have hlen : (Cut.app (.part a m) xs).length = m := by simp only [Cut.app, List.length_take, List.length_drop]; omega
        refine ⟨hl, ⟨us, h1, h2, h3⟩, ⟨_, _, by rw [hlen], by rw [hlen]; omega, k5, by rw [hlen]; omega, ?_⟩, fun i => ?_⟩
        · rw [hlen]
          rcases k6 with k6 | ⟨blk, k6, k7⟩
          · left; omega
          · right
            rcases h7 with h7 | ⟨bb, h7, h8⟩
            · subst k6
              refine ⟨blk, by rw [h4]; rfl, k7⟩
            · rw [k6] at h7; cases h7
              exact ⟨_, h8, k7⟩
        · rw [hlen]
          simp only [Cut.app, List.getElem?_take, List.getElem?_drop]
      · cases h
    · cases h
  · cases h
/-- &l[i], l a row of its own -/
def idxRArgs (P : Program) (s : St) (o : Oper) : Option (Nat × Nat × List (List SC) × Cut × Nat × Int) := match o.op with
  | .indexAddr t x y => match (opd s x).bind (rowOfS s), opd s y, P.underlying t with
    | some (d, _, sz, _, xs, c, a), some (.c (.lit (.int _ i))), some (.slice e') => match P.info? e' with
      | some ie => if ie.size = sz then some (d, sz, xs, c, a, i) else none
      | none => none
    | _, _, _ => none
  | _ => none
theorem grow_idxR {d sz a : Nat} {f : α → List SC} {l : List α} {c : Cut} {i : Int} {x : α} (hx : idx (c.app l) i = some x) (h : idxRArgs P s o = some (d, sz, l.map f, c, a, i)) : GrowOp P o s (.c (.elt d sz (a + i.toNat) 0)) := by
  unfold idxRArgs at h
  split at h
  rotate_left
  · cases h
  rename_i t xo yo ho
  split at h
  rotate_left
  · cases h
  rename_i d1 e1 sz1 N1 xs1 c1 a1 k1 i1 e' hxx hy hu
  split at h
  rotate_left
  · cases h
  rename_i ie hie
  split at h
  rotate_left
  · cases h
  rename_i hsz
  cases h
  refine PureOp.grow fun g rd A w hview => ?_
  obtain ⟨v, hv1, hv2⟩ := Option.bind_eq_some_iff.1 hxx
  obtain ⟨hl, hr⟩ := rowOfS_rel hv2 hview (hview.op xo _ (by simp [ho, Op.operands]) hv1)
  have hyv := rel_lit (hview.op yo _ (by simp [ho, Op.operands]) hy)
  obtain ⟨h0, hi⟩ := idx_spec hx
  have hlt := (List.getElem?_eq_some_iff.1 hi).1
  obtain ⟨xa, cap, q1, q2, q3, q4, q5⟩ := hr.val
  rw [Cut.map, List.length_map] at q1 q2 q4 q5
  rcases q5 with q5 | ⟨b, q5, q6⟩
  · omega
  have hii : i < ((c.app l).length : Int) := by omega
  refine ⟨.pointer (some ⟨b, a * sz + i.toNat * sz, none⟩), ?_, ?_⟩
  · subst q6
    simp [execOp, ho, hyv, q1, Instr.indexAt, asIntOf, run_underlying hu, h0, hii, sizeOf, typeInfo, hie, addr_add, hsz]
  · obtain ⟨us, h1, _⟩ := hr.own
    obtain ⟨bb, cc, h4, _, _, _, h7⟩ := tk_slice h1
    rcases h7 with h7 | ⟨b2, h7, h8⟩
    · omega
    · rw [q5] at h8; cases h8
      exact ⟨b, N1, cc, by rw [h4, h7], by rw [Nat.add_zero, Nat.add_mul]⟩
/-- what lies behind such a pointer -/
def ldEArgs (_P : Program) (s : St) (o : Oper) : Option (TypeId × List (List SC) × Nat × Nat) := match o.op with
  | .load t p => match opd s p with
    | some (.c (.elt d sz i off)) => match look s.hp d with
      | some (.row _ sz' _ xs) => if sz' = sz then some (t, xs, i, off) else none
      | _ => none
    | _ => none
  | _ => none
theorem grow_ldE {t : TypeId} {i off : Nat} {f : α → List SC} {l : List α} {x : α} {v : SV} (hx : l[i]? = some x) (h : ldEArgs P s o = some (t, l.map f, i, off)) (hv : wrapT P t ((f x).drop off) = some v) : GrowOp P o s v := by
  unfold ldEArgs at h
  split at h
  rotate_left
  · cases h
  rename_i t' p ho
  split at h
  rotate_left
  · cases h
  rename_i d sz i' off' hp
  split at h
  rotate_left
  · cases h
  rename_i e sz' N xs hl
  split at h
  rotate_left
  · cases h
  rename_i hs
  subst hs
  cases h
  refine PureOp.grow fun g rd A w hview => ?_
  obtain ⟨b, N2, c, h1, h2⟩ := hview.op p _ (by simp [ho, Op.operands]) hp
  obtain ⟨us, h3, h4, h5⟩ := hview.holds d _ hl
  have hb : (g.tk d).1.ownBlock = some b := by rw [h1]; rfl
  have hxs : (l.map f)[i]? = some (f x) := by rw [List.getElem?_map, hx]; rfl
  have hcell : ∀ j y, ((f x).drop off)[j]? = some y → ∃ z, w.cell? ⟨b, i * sz' + off + j, none⟩ = some z ∧ CRel rd g z y := by
    intro j y hy
    rw [List.getElem?_drop] at hy
    obtain ⟨u, q1, q2⟩ := h5.2 i _ (off + j) y hxs hy
    have := h3.cells hb _ _ q1
    rw [addr_add, Nat.zero_add] at this
    exact ⟨u, by rw [Nat.add_assoc]; exact this, q2.c⟩
  obtain ⟨u, k1, k2⟩ := run_loadVar_sh (P := P) hv hcell
  exact ⟨u, by simp [execOp, ho, h2, Instr.loadAt, Instr.sureAddr, k1], k2⟩
/-- such a place is written -/
def stEArgs (P : Program) (s : St) (o : Oper) : Option (Nat × Nat × Nat × Nat × List (List SC) × Nat × Nat × List SC) := match o.op with
  | .store t p x => match opd s p, opd s x with
    | some (.c (.elt d sz i off)), some v => match look s.hp d, (cellsOf v).bind immL, P.info? t, o.dst with
      | some (.row e sz' N xs), some ds, some it, none => if sz' = sz ∧ it.size = ds.length then some (d, e, sz, N, xs, i, off, ds) else none
      | _, _, _, _ => none
    | _, _ => none
  | _ => none
theorem upd_stE {d e sz N i off : Nat} {f : α → List SC} {l : List α} {x x' : α} {ds : List SC} (hx : l[i]? = some x) (h : stEArgs P s o = some (d, e, sz, N, l.map f, i, off, ds)) (hx' : over (f x) off ds = f x') (hlen : (decide (off + ds.length ≤ (f x).length) && ds.all SC.one) = true) :
    UpdOp P o s d (.row e sz N (l.map f)) (.row e sz (l.set i x').length ((l.set i x').map f)) (.tup []) := by
  unfold stEArgs at h
  split at h
  rotate_left
  · cases h
  rename_i t p xo ho
  split at h
  rotate_left
  · cases h
  rename_i d1 sz1 i1 off1 v hp hxo
  split at h
  rotate_left
  · cases h
  rename_i e2 sz2 N2 xs2 ds2 it hl hds hit hdst
  split at h
  rotate_left
  · cases h
  rename_i hs
  obtain ⟨rfl, hsz⟩ := hs
  cases h
  simp only [Bool.and_eq_true, decide_eq_true_eq] at hlen
  obtain ⟨hlen, h1⟩ := hlen
  refine ⟨hl, rfl, fun _ _ _ hf => hf, fun g rd A w hview => ?_⟩
  obtain ⟨b, N2, c, k1, k2⟩ := hview.op p _ (by simp [ho, Op.operands]) hp
  obtain ⟨us, h3, h4, h5⟩ := hview.holds d _ hl
  have hb : (g.tk d).1.ownBlock = some b := by rw [k1]; rfl
  have hxs : (l.map f)[i]? = some (f x) := by rw [List.getElem?_map, hx]; rfl
  have hfl : (f x).length = sz := h5.1 _ (List.mem_of_getElem? hxs)
  have hiN : i < N := by have := (List.getElem?_eq_some_iff.1 hxs).1; omega
  have hbound : i * sz + off + ds.length ≤ N * sz := by
    have : (i + 1) * sz ≤ N * sz := Nat.mul_le_mul_right _ hiN
    rw [Nat.add_mul, Nat.one_mul] at this
    omega
  obtain ⟨cs, hcs1, hcs2⟩ := Option.bind_eq_some_iff.1 hds
  have hrc := rel_cells (hview.op xo _ (by simp [ho, Op.operands]) hxo) hcs1
  obtain ⟨i1, i2⟩ := immL_get _ _ hcs2
  have hvl : (A.eval xo).cells.toList.length = ds.length := by rw [Array.length_toList, hrc.1, i1]
  have hval : ∀ (j : Nat) (y : SC), ds[j]? = some y → ∃ u, (A.eval xo).cells.toList[j]? = some u ∧ IRel rd u y := by
    intro j y hy
    obtain ⟨x0, q1, q2⟩ := i2 j y hy
    obtain ⟨u, q3, q4⟩ := hrc.2 j x0 q1
    exact ⟨u, by simpa using q3, imm_rel q4 q2⟩
  have hul := h3.1
  have hcell : ∀ j, j < ds.length → ∃ u, w.cell? ⟨b, i * sz + off + j, none⟩ = some u := by
    intro j hj
    have := h3.cells hb (i * sz + off + j) _ (List.getElem?_eq_getElem (by omega))
    rw [addr_add, Nat.zero_add] at this
    exact ⟨_, this⟩
  have hst := run_storeCells_cells (P := P) b (i * sz + off) (A.eval xo).cells.toList 0 w
    (fun j hj => by obtain ⟨u, q⟩ := hcell j (by omega); rw [Nat.add_zero, q]; rfl)
    (fun j hj => by
      rcases h3.2 with ⟨q, _⟩ | ⟨gb, cap, cur, q1, _, q2, _⟩
      · rw [q] at hb; cases hb
      · rw [q1] at hb; cases hb
        simp [World.frozen?, q2])
    (fun u hu => by
      obtain ⟨j, hj, rfl⟩ := List.getElem_of_mem hu
      obtain ⟨u', q1, q2⟩ := hval j _ (List.getElem?_eq_getElem (by omega))
      rw [List.getElem?_eq_getElem hj] at q1
      cases q1
      exact oneCell_imm q2 (List.all_eq_true.1 h1 _ (List.getElem_mem _)))
  simp only [Nat.add_zero] at hst
  obtain ⟨o1, o2⟩ := own_write h3 hb (i * sz + off) (A.eval xo).cells.toList (by omega)
  refine ⟨.skip, _, ?_, o2, .inl ⟨rfl, hdst⟩, fun rd' hle => ⟨_, (by rw [show (l.set i x').length = N by rw [List.length_set]; simpa using h4]; exact o1), by simp, ?_⟩⟩
  · simp only [execOp, ho, k2, Instr.storeAt, Instr.sureAddr, storeVar, sizeOf, typeInfo, program, hit, Sem.run_bind, Sem.run_pure, Sem.run, Result.andThen_ok]
    rw [if_neg (by rw [← Array.length_toList, hvl, hsz]; simp)]
    simp only [Result.andThen_ok, hst]
  · refine ⟨fun y hy => ?_, fun i2 y j z hy hz => ?_⟩
    · obtain ⟨y0, hy0, rfl⟩ := List.mem_map.1 hy
      rcases List.mem_or_eq_of_mem_set hy0 with q | q
      · exact h5.1 _ (List.mem_map_of_mem q)
      · rw [q, ← hx', over_length hlen]; exact hfl
    · rw [List.getElem?_map, List.getElem?_set] at hy
      rw [splice_get _ _ _ (by omega), hvl]
      by_cases hii : i = i2
      · subst hii
        rw [if_pos rfl] at hy
        have hil := (List.getElem?_eq_some_iff.1 hx).1
        rw [if_pos hil] at hy
        simp only [Option.map_some, Option.some.injEq] at hy
        subst hy
        rw [← hx', over_get hlen] at hz
        by_cases hj : off ≤ j ∧ j < off + ds.length
        · rw [if_pos hj] at hz
          rw [if_pos (by omega)]
          obtain ⟨u, q1, q2⟩ := hval _ z hz
          exact ⟨u, by rw [← q1]; congr 1; omega, q2.mono hle⟩
        · rw [if_neg hj] at hz
          rw [if_neg (by omega)]
          obtain ⟨u, q1, q2⟩ := h5.2 i _ j z hxs hz
          exact ⟨u, q1, q2.mono hle⟩
      · rw [if_neg hii] at hy
        obtain ⟨y0, hy0, rfl⟩ := Option.map_eq_some_iff.1 hy
        have hys : (l.map f)[i2]? = some (f y0) := by rw [List.getElem?_map, hy0]; rfl
        have hyl := h5.1 _ (List.mem_of_getElem? hys)
        have hj : j < sz := by have := (List.getElem?_eq_some_iff.1 hz).1; omega
        obtain ⟨u, q1, q2⟩ := h5.2 i2 _ j z hys hz
        refine ⟨u, ?_, q2.mono hle⟩
        rw [if_neg]
        · exact q1
        · rintro ⟨q3, q4⟩
          rcases Nat.lt_or_gt_of_ne hii with q5 | q5
          · have : (i + 1) * sz ≤ i2 * sz := Nat.mul_le_mul_right _ q5
            rw [Nat.add_mul, Nat.one_mul] at this
            omega
          · have : (i2 + 1) * sz ≤ i * sz := Nat.mul_le_mul_right _ q5
            rw [Nat.add_mul, Nat.one_mul] at this
            omega
end
end
section
open Go.RowKit

theorem run_bounds {P : Program} {w : World} {A : Act} {g : Env} {rd : Rd} {s : St} {o : Oper} (hview : OView g rd A w s o) {lo hi : Option Operand} (hlm : ∀ y, lo = some y → y ∈ o.op.operands.toList) (hhm : ∀ y, hi = some y → y ∈ o.op.operands.toList) (sl : Bool) {len cap : Nat} {a b : Int} {vlo vhi : Option (IntKind × Int)}
    (hlo : lo.map (opd s) = vlo.map fun p => some (int p.1 p.2)) (hhi : hi.map (opd s) = vhi.map fun p => some (int p.1 p.2)) (ha : a = (vlo.map (·.2)).getD 0) (hb : b = (vhi.map (·.2)).getD (len : Int)) (h0 : 0 ≤ a) (h1 : a ≤ b) (h2 : b ≤ len) (hcap : len ≤ cap) :
    (Instr.sliceBounds sl len cap (lo.map A.eval) (hi.map A.eval) (none : Option Value)).run P w = .ok (a.toNat, b.toNat, cap) w := by
  have hb' : ∀ cd, (match hi.map A.eval with | some v => Instr.sliceBound v cap cd | none => pure len : Sem Nat).run P w = .ok b.toNat w := by
    intro cd
    cases hi with
    | none =>
      cases vhi with
      | none => simp at hb; subst hb; simp
      | some p => simp at hhi
    | some y =>
      cases vhi with
      | none => simp at hhi
      | some p =>
        simp only [Option.map_some, Option.some.injEq, Option.getD_some] at hhi hb
        have := rel_lit (hview.op y _ (hhm y rfl) hhi)
        simp only [Option.map_some, this]
        rw [← hb]
        exact run_bound _ _ _ _ (by omega) (by omega)
  have ha' : ∀ cd, (match lo.map A.eval with | some v => Instr.sliceBound v b.toNat cd | none => pure 0 : Sem Nat).run P w = .ok a.toNat w := by
    intro cd
    cases lo with
    | none =>
      cases vlo with
      | none => simp at ha; subst ha; simp
      | some p => simp at hlo
    | some y =>
      cases vlo with
      | none => simp at hlo
      | some p =>
        simp only [Option.map_some, Option.some.injEq, Option.getD_some] at hlo ha
        have := rel_lit (hview.op y _ (hlm y rfl) hlo)
        simp only [Option.map_some, this]
        rw [← ha]
        exact run_bound _ _ _ _ (by omega) (by omega)
  unfold Instr.sliceBounds
  cases hi with
  | none =>
    have hbb := hb' .sliceAcap
    cases lo with
    | none =>
      have haa := ha' .sliceB
      simp at haa hbb ⊢
      exact ⟨haa, hbb⟩
    | some y =>
      have haa := ha' .sliceB
      simp only [Option.map_none, Option.map_some, Sem.run_bind, Sem.run_pure, Result.andThen_ok, Option.isSome_none, Bool.false_eq_true, if_false] at haa hbb ⊢
      injection hbb with hbb1
      rw [hbb1] at *
      rw [haa]; simp
  | some z =>
    cases lo with
    | none =>
      cases sl <;>
      · simp only [Option.map_none, Option.map_some, Sem.run_bind, Sem.run_pure, Result.andThen_ok, Bool.false_eq_true, if_false, if_true]
        have haa := ha' .sliceB
        first
          | (have hbb := hb' .sliceAcap; simp only [Option.map_some] at hbb; rw [hbb])
          | (have hbb := hb' .sliceAlen; simp only [Option.map_some] at hbb; rw [hbb])
        simp at haa ⊢
        exact haa
    | some y =>
      cases sl <;>
      · simp only [Option.map_some, Sem.run_bind, Sem.run_pure, Result.andThen_ok, Option.isSome_none, Bool.false_eq_true, if_false, if_true]
        have haa := ha' .sliceB
        first
          | (have hbb := hb' .sliceAcap; simp only [Option.map_some] at hbb; rw [hbb])
          | (have hbb := hb' .sliceAlen; simp only [Option.map_some] at hbb; rw [hbb])
        simp only [Option.map_some] at haa
        simp only [Result.andThen_ok, haa]

section
variable {P : Program} {o : Oper} {s : St} {α : Type}
def slRArgs (P : Program) (s : St) (o : Oper) : Option (Nat × Nat × Nat × Int × Int) := match o.op with
  | .slice t x lo hi none => match opd s x, P.underlying t with
    | some (.c (.own d)), some (.slice e') => match look s.hp d, P.info? e' with
      | some (.row _ sz N _), some ie => match bnd s 0 lo, bnd s N hi with
        | some (_, a), some (_, b) => if ie.size = sz then some (d, sz, N, a, b) else none
        | _, _ => none
      | _, _ => none
    | _, _ => none
  | _ => none
theorem slR_run {d sz N : Nat} {a b : Int} (h : slRArgs P s o = some (d, sz, N, a, b)) (hc : decide (0 ≤ a ∧ a ≤ b ∧ b ≤ (N : Int)) = true) {g : Env} {rd : Rd} {A : Act} {w : World} (hview : OView g rd A w s o) :
    ∃ x c, (g.tk d).1 = .slice x N c ∧ N ≤ c ∧ c ≤ maxLen ∧ (N = 0 ∨ ∃ blk, x = some ⟨blk, 0, none⟩) ∧ (execOp A.eval o).run P w = .ok (.value (.slice (if c = a.toNat then x else x.map (·.add (a.toNat * sz))) (b.toNat - a.toNat) (c - a.toNat))) w := by
  unfold slRArgs at h
  split at h
  rotate_left
  · cases h
  rename_i t xo lo hi ho
  split at h
  rotate_left
  · cases h
  rename_i d1 e1 hx hu
  split at h
  rotate_left
  · cases h
  rename_i e2 sz2 N2 xs2 ie hl hie
  split at h
  rotate_left
  · cases h
  rename_i vlo a1 vhi b1 hlo hhi
  split at h
  rotate_left
  · cases h
  rename_i hsz
  cases h
  obtain ⟨c0, c1, c2⟩ := of_decide_eq_true hc
  obtain ⟨us, h3, h4, h5⟩ := hview.holds d _ hl
  obtain ⟨x, c, k1, k2, k3, _, k5⟩ := tk_slice h3
  obtain ⟨hv, _⟩ := hview.op xo _ (by simp [ho, Op.operands]) hx
  refine ⟨x, c, k1, k2, k3, ?_, ?_⟩
  · rcases k5 with k5 | ⟨blk, k5, _⟩
    · exact .inl k5
    · exact .inr ⟨blk, k5⟩
  · obtain ⟨q1, q2⟩ := bnd_spec hlo
    obtain ⟨q3, q4⟩ := bnd_spec hhi
    have hk := run_bounds (P := P) (A := A) hview (lo := lo) (hi := hi) (fun y hy => by subst hy; simp [ho, Op.operands]) (fun y hy => by subst hy; cases lo <;> simp [ho, Op.operands]) true (len := N) (cap := c) q1 q3 q2 q4 c0 c1 c2 k2
    simp only [execOp, ho, Option.map_none, Instr.sliceAt, Instr.slice, run_underlying hu, hv, k1, hk, sizeOf, typeInfo, program, hie, Sem.run_bind, Sem.run_pure, Sem.run, Result.andThen_ok, hsz]
theorem grow_slRow {d sz N : Nat} {a b : Int} (h : slRArgs P s o = some (d, sz, N, a, b)) (hc : decide (0 ≤ a ∧ a ≤ b ∧ b ≤ (N : Int)) = true) (ha : a = 0) : GrowOp P o s (.c (.row d b.toNat)) := by
  refine PureOp.grow fun g rd A w hview => ?_
  obtain ⟨x, c, k1, k2, k3, k4, k5⟩ := slR_run h hc hview
  obtain ⟨c0, c1, c2⟩ := of_decide_eq_true hc
  subst ha
  refine ⟨_, k5, x, N, c, k1, ?_, by omega⟩
  simp only [Int.toNat_zero, Nat.sub_zero, Nat.zero_mul]
  split
  · rfl
  · cases x with
    | none => rfl
    | some ad =>
      simp only [Option.map_some]
      rcases k4 with k4 | ⟨blk, k4⟩
      · congr 2
      · cases k4; rfl
theorem grow_slSub {d sz N : Nat} {a b : Int} (h : slRArgs P s o = some (d, sz, N, a, b)) (hc : decide (0 ≤ a ∧ a ≤ b ∧ b ≤ (N : Int)) = true) : GrowOp P o s (.c (.sub d sz a.toNat (b.toNat - a.toNat))) := by
  refine PureOp.grow fun g rd A w hview => ?_
  obtain ⟨x, c, k1, k2, k3, k4, k5⟩ := slR_run h hc hview
  obtain ⟨c0, c1, c2⟩ := of_decide_eq_true hc
  refine ⟨_, k5, x, N, c, _, _, k1, by omega, rfl, by omega, by omega, ?_⟩
  by_cases hz : b.toNat - a.toNat = 0
  · exact .inl hz
  · right
    rcases k4 with k4 | ⟨blk, k4⟩
    · omega
    · refine ⟨blk, k4, ?_⟩
      rw [if_neg (by omega), k4]
      simp only [Option.map_some, addr_add, Nat.zero_add]

def cpL (l : List α) (a m : Nat) (src : List α) : List α := l.take a ++ src.take (min src.length m) ++ l.drop (a + min src.length m)
def cpArgs (P : Program) (s : St) (o : Oper) : Option (Nat × Nat × Nat × Nat × List (List SC) × Cut × Nat × List (List SC) × Cut) := match o.op with
  | .call { callee := .builtin .copy, args := xs, argTypes := ts } => match xs.toList, ts.toList with
    | [x, y], [t, _] => match P.underlying t with
      | some (.slice e') => match P.info? e' with
        | some ie => match (opd s x).bind (rowOfS s), (opd s y).bind (srcS s ie.size) with
          | some (d, e, sz, N, xs, c, a), some (ys, c') => if ie.size = sz ∧ 0 < sz then some (d, e, sz, N, xs, c, a, ys, c') else none
          | _, _ => none
        | none => none
      | _ => none
    | _, _ => none
  | _ => none
theorem run_copy_zero {P : Program} {w : World} (dT sT ty e : TypeId) (ie : TypeInfo) (hu : P.underlying dT = some (.slice e)) (hi : P.info? e = some ie) (x y : Option Addr) (dl dc sl sc : Nat) (h : Nat.min sl dl = 0) :
    (Builtin.copy_ #[dT, sT] ty #[.slice x dl dc, .slice y sl sc]).run P w = .ok (goInt 0) w := by
  cases x <;> cases y <;> simp [Builtin.copy_, run_underlying hu, Builtin.lenOf, Builtin.firstCells, sizeOf, typeInfo, hi, storeCells, h, loadCells, loadCellsFrom]
theorem upd_cpR {d e sz N a : Nat} {f : α → List SC} (hone : ∀ x, (f x).all SC.one = true) {l l2 : List α} {c c' : Cut} (h : cpArgs P s o = some (d, e, sz, N, l.map f, c, a, l2.map f, c')) :
    UpdOp P o s d (.row e sz N (l.map f)) (.row e sz (cpL l a (c.app l).length (c'.app l2)).length ((cpL l a (c.app l).length (c'.app l2)).map f)) (int .i64 (min (c'.app l2).length (c.app l).length : Nat)) := by
  unfold cpArgs at h
  split at h
  rotate_left
  · cases h
  rename_i xs ts ho
  split at h
  rotate_left
  · cases h
  rename_i x y t t' hxs hts
  have hxs' : xs = #[x, y] := by rw [← Array.toArray_toList (xs := xs), hxs]
  have hts' : ts = #[t, t'] := by rw [← Array.toArray_toList (xs := ts), hts]
  subst hxs'
  subst hts'
  split at h
  rotate_left
  · cases h
  rename_i e1 hu
  split at h
  rotate_left
  · cases h
  rename_i ie hie
  split at h
  rotate_left
  · cases h
  rename_i d1 e2 sz2 N2 xs2 c2 a2 ys2 c2' hx hy
  split at h
  rotate_left
  · cases h
  rename_i hq
  obtain ⟨hsz, hs0⟩ := hq
  cases h
  obtain ⟨vx, hx1, hx2⟩ := Option.bind_eq_some_iff.1 hx
  obtain ⟨vy, hy1, hy2⟩ := Option.bind_eq_some_iff.1 hy
  have hl : look s.hp d = some (.row e sz N (l.map f)) := by
    unfold rowOfS at hx2
    split at hx2
    · split at hx2
      · rename_i hl; cases hx2; exact hl
      · cases hx2
    · split at hx2
      · rename_i hl; cases hx2; exact hl
      · cases hx2
    · split at hx2
      · rename_i hl; cases hx2; exact hl
      · cases hx2
    · split at hx2
      · rename_i hl
        split at hx2
        · cases hx2; exact hl
        · cases hx2
      · cases hx2
    · cases hx2
  refine ⟨hl, rfl, fun _ _ _ hf => hf, fun g rd A w hview => ?_⟩
  obtain ⟨_, hr⟩ := rowOfS_rel hx2 hview (hview.op x _ (by simp [ho, Op.operands, Call.operands]) hx1)
  rw [hsz] at hy2
  obtain ⟨ay, cy, vals, v1, v2, v3, v4, _⟩ := srcS_rel hy2 hview (hview.op y _ (by simp [ho, Op.operands, Call.operands]) hy1)
  obtain ⟨us, h1, h2, h3⟩ := hr.own
  obtain ⟨xa, cap, q1, q2, q3, q4, q5⟩ := hr.val
  rw [Cut.map, List.length_map] at q1 q2 q4 q5 v1 v2
  rw [Cut.map] at v3 v4
  simp only [execOp, ho, resolve, invoke, builtin, Sem.run_bind, Sem.run_pure, Result.andThen_ok, List.map_toArray, List.map_cons, List.map_nil, q1, v1]
  generalize hk : min (c'.app l2).length (c.app l).length = k at *
  have hk' : Nat.min (c'.app l2).length (c.app l).length = k := hk
  by_cases hk0 : k = 0
  · rw [run_copy_zero t t' o.type _ ie hu hie _ _ _ _ _ _ (by rw [hk', hk0])]
    simp only [Result.andThen_ok]
    refine ⟨_, _, rfl, Keep.refl _ _, .inr ⟨_, rfl, fun rd' _ => ?_⟩, fun rd' hle => ?_⟩
    · rw [hk0]; exact .lit _
    · have : cpL l a (c.app l).length (c'.app l2) = l := by
        unfold cpL
        rw [hk, hk0]
        simp
      rw [this]
      have hlN : l.length = N := by simpa using h2
      exact ⟨us, by rw [hlN]; exact h1, by simp, h3.mono hle⟩
  · rcases q5 with q5 | ⟨b, q5, q6⟩
    · omega
    rcases v4 with v4 | ⟨ad, v4, v5⟩
    · have := List.map_eq_nil_iff.1 v4
      rw [this] at hk
      simp at hk
      omega
    subst q6
    subst v4
    have hkl : k ≤ (c'.app l2).length := by omega
    have hkd : k ≤ (c.app l).length := by omega
    have hvl : (vals.take (k * sz)).length = k * sz := by
      rw [List.length_take, v2]
      exact Nat.min_eq_left (Nat.mul_le_mul_right _ hkl)
    have hb1 : a * sz + k * sz ≤ N * sz := by rw [← Nat.add_mul]; exact Nat.mul_le_mul_right _ (by omega)
    have hul := h1.1
    have hsrc : ∀ j v, (vals.take (k * sz))[j]? = some v → w.cell? (ad.add j) = some v := by
      intro j v hj
      rw [List.getElem?_take] at hj
      split at hj
      · exact v5 j v hj
      · cases hj
    have hrowk : RowIs rd sz (vals.take (k * sz)) (((c'.app l2).map f).take k) := by
      have := v3.cut 0 k
      simpa using this
    have h1v := SrcIs.one (vals := vals.take (k * sz)) hs0 (by rw [hvl, List.length_take, List.length_map, Nat.min_eq_left hkl]) hrowk (fun x hx => by
      obtain ⟨y0, _, rfl⟩ := List.mem_map.1 (List.mem_of_mem_take hx); exact hone y0)
    have hst := run_storeCells_cells (P := P) b (a * sz) (vals.take (k * sz)) 0 w
      (fun j hj => by
        have := h1.cells q5 (a * sz + j) _ (List.getElem?_eq_getElem (by omega))
        rw [addr_add, Nat.zero_add] at this
        rw [Nat.add_zero, this]; rfl)
      (fun j hj => by
        rcases h1.2 with ⟨q, _⟩ | ⟨gb, cap, cur, q1, _, q2, _⟩
        · rw [q] at q5; cases q5
        · rw [q1] at q5; cases q5
          simp [World.frozen?, q2]) h1v
    simp only [Nat.add_zero] at hst
    obtain ⟨o1, o2⟩ := own_write h1 q5 (a * sz) (vals.take (k * sz)) (by omega)
    have hfc := run_firstCells_some (P := P) w sz k ad (c'.app l2).length cy (vals.take (k * sz)) hvl hsrc
    have hrun : (Builtin.copy_ #[t, t'] o.type #[.slice (some ⟨b, a * sz, none⟩) (c.app l).length cap, .slice (some ad) (c'.app l2).length cy]).run P w = .ok (goInt k) (w.setCells b (a * sz) (vals.take (k * sz))) := by
      simp [Builtin.copy_, run_underlying hu, Builtin.lenOf, sizeOf, typeInfo, hie, hsz, hk', hfc, hst]
    rw [hrun]
    simp only [Result.andThen_ok]
    refine ⟨_, _, rfl, o2, .inr ⟨_, rfl, fun rd' _ => .lit _⟩, fun rd' hle => ⟨_, (by
      have hlN : (cpL l a (c.app l).length (c'.app l2)).length = N := by
        unfold cpL
        simp only [List.length_map, List.length_append, List.length_take, List.length_drop, hk] at h2 ⊢
        omega
      rw [hlN]; exact o1), by simp, ?_⟩⟩
    · unfold cpL
      rw [hk, List.map_append, List.map_append, hvl, ← Nat.add_mul]
      refine RowIs.mono hle ?_
      have e1 : RowIs rd sz (us.take (a * sz)) ((l.take a).map f) := by
        have := h3.cut 0 a
        simpa [List.map_take] using this
      have e2 : RowIs rd sz (vals.take (k * sz)) (((c'.app l2).take k).map f) := by
        rw [List.map_take]; exact hrowk
      have e3 : RowIs rd sz (us.drop ((a + k) * sz)) ((l.drop (a + k)).map f) := by
        have := h3.cut (a + k) (N - (a + k))
        have q : (us.drop ((a + k) * sz)).take ((N - (a + k)) * sz) = us.drop ((a + k) * sz) := List.take_of_length_le (by rw [List.length_drop, hul, ← Nat.sub_mul]; exact Nat.le_refl _)
        have q' : ((l.map f).drop (a + k)).take (N - (a + k)) = (l.drop (a + k)).map f := by
          rw [List.map_drop]; exact List.take_of_length_le (by rw [List.length_drop, h2]; exact Nat.le_refl _)
        rw [q, q'] at this
        exact this
      have hal : a ≤ l.length := by rw [List.length_map] at h2; omega
      refine (e1.append e2 ?_).append e3 ?_
      · simp only [List.length_map, List.length_take]; rw [Nat.min_eq_left (by rw [hul]; omega), Nat.min_eq_left hal]
      · simp only [List.length_map, List.length_append, List.length_take, hvl]; rw [Nat.min_eq_left (by rw [hul]; omega), Nat.min_eq_left hal, Nat.min_eq_left hkl, Nat.add_mul]
end
end
section
open Go.RowKit

/-- the row token of one name is another -/
structure Other (g g' : Env) (d0 : Nat) : Prop where
  pos : ∀ d, g'.pos d = g.pos d
  tk : ∀ d, d ≠ d0 → g'.tk d = g.tk d
  tk2 : ∀ d, (g'.tk d).2 = (g.tk d).2
theorem CRel0.kill {rd rd' : Rd} (hle : rd.le rd') {g g' : Env} {d0 : Nat} (k : Other g g' d0) {v : Value} {x : SC} (h : CRel0 rd g v x) : CRel0 rd' g' v (x.kill0 d0) := by
  cases x with
  | lit u => exact h.mono hle
  | ref cs => exact h.mono hle
  | box d off => simp only [SC.kill0, CRel0, k.pos] at *; exact h
  | own d => simp only [SC.kill0]; split; · trivial
             · rename_i hd; simp only [CRel0, k.tk d hd] at *; exact h
  | row d n => simp only [SC.kill0]; split; · trivial
               · rename_i hd; simp only [CRel0, k.tk d hd] at *; exact h
  | win d off n => simp only [SC.kill0, CRel0, k.pos] at *; exact h
  | sub d s a n => simp only [SC.kill0]; split; · trivial
                   · rename_i hd; simp only [CRel0, k.tk d hd] at *; exact h
  | elt d s i off => simp only [SC.kill0]; split; · trivial
                     · rename_i hd; simp only [CRel0, k.tk d hd] at *; exact h
  | ex d => simp only [SC.kill0]; split; · trivial
            · rename_i hd; simp only [CRel0, k.tk d hd] at *; exact h
  | any => trivial
  | clo c cs => exact h.elim
  | slc s tag n xs =>
    refine ⟨h.1.mono hle, ?_⟩
    rcases tag with _ | _ | t
    · trivial
    · exact h.2
    · have h2 := h.2
      simp only [Tag, k.tk2] at h2 ⊢
      exact h2
theorem CRel.kill {rd rd' : Rd} (hle : rd.le rd') {g g' : Env} {d0 : Nat} (k : Other g g' d0) {v : Value} {x : SC} (h : CRel rd g v x) : CRel rd' g' v (x.kill d0) := by
  cases x with
  | clo c cs =>
    obtain ⟨caps, h1, h2, h3⟩ := h
    refine ⟨caps, h1, by simpa using h2, fun j y hy => ?_⟩
    rw [List.getElem?_map] at hy
    obtain ⟨y0, hy0, rfl⟩ := Option.map_eq_some_iff.1 hy
    obtain ⟨u, h4, h5⟩ := h3 j y0 hy0
    exact ⟨u, h4, h5.kill hle k⟩
  | lit u => exact CRel0.up (CRel0.kill hle k (x := .lit u) h)
  | ref u => exact CRel0.up (CRel0.kill hle k (x := .ref u) h)
  | box d off => exact CRel0.up (CRel0.kill hle k (x := .box d off) h)
  | own d => exact CRel0.up (CRel0.kill hle k (x := .own d) h)
  | row d n => exact CRel0.up (CRel0.kill hle k (x := .row d n) h)
  | win d off n => exact CRel0.up (CRel0.kill hle k (x := .win d off n) h)
  | sub d s a n => exact CRel0.up (CRel0.kill hle k (x := .sub d s a n) h)
  | elt d s i off => exact CRel0.up (CRel0.kill hle k (x := .elt d s i off) h)
  | ex d => exact CRel0.up (CRel0.kill hle k (x := .ex d) h)
  | any => trivial
  | slc s tag n xs => exact CRel0.up (CRel0.kill hle k (x := .slc s tag n xs) h)

section
variable {K : Ctx} {g g' : Env} {w w' : World} {n : Nat} {a : Act} {s : St}
/-- one resource and its names change; what is said of the rest is changed by m -/
theorem RG.turn (h : RG K g n a w s) {d : Nat} {r0 r : Res} (m : SC → SC) (hl : look s.hp d = some r0) (hpos : ∀ e, g'.pos e = g.pos e) (htk : ∀ e, e ≠ d → g'.tk e = g.tk e) (ok : SC → Bool) (hok1 : ∀ t v, look s.tmps t = some v → v.every ok = true) (hok2 : ∀ e x, look s.hp e = some x → x.every ok = true)
    (hm : (rdOf K g s.hp w).le (rdOf K g' (setL d r (s.mapC m).hp) w') → ∀ v x, ok x = true → CRel (rdOf K g s.hp w) g v x → CRel (rdOf K g' (setL d r (s.mapC m).hp) w') g' v (m x)) (hk : Keep w (Foot g d r0) w') (hfoot : ∀ b o, Foot g' d r b o → Foot g d r0 b o ∨ w.heap.size ≤ b) (hnb : ∀ cs, r ≠ .box cs) (hr0 : r0.isBox = false)
    (hh : (rdOf K g s.hp w).le (rdOf K g' (setL d r (s.mapC m).hp) w') → Holds (rdOf K g' (setL d r (s.mapC m).hp) w') g' w' d r) : RG K g' n a w' ((s.mapC m).setR d r) ∧ (rdOf K g s.hp w).le (rdOf K g' (setL d r (s.mapC m).hp) w') := by
  have ht : ∀ e, (e == d) = false → e ≠ d := fun e h => by simpa using h
  have ht' : ∀ e, (e == d) = true → e = d := fun e h => by simpa using h
  have he : ∀ e x, (e == d) = false → look s.hp e = some x → g'.pos e = g.pos e ∧ g'.tk e = g.tk e := fun e x h1 _ => ⟨hpos e, htk e (ht e h1)⟩
  have hl' : ∀ e x, e ≠ d → look (setL d r (s.mapC m).hp) e = some x → ∃ x0, look s.hp e = some x0 ∧ x = x0.map m := by
    intro e x he' hx
    rw [look_setL, if_neg (Ne.symm he')] at hx
    simp only [St.mapC, look_map (fun x => Res.map m x)] at hx
    obtain ⟨x0, h1, h2⟩ := Option.map_eq_some_iff.1 hx
    exact ⟨x0, h1, h2.symm⟩
  have hld : look (setL d r (s.mapC m).hp) d = some r := by rw [look_setL, if_pos rfl]
  have hk' : Keep w (fun b o => ∃ e x, (e == d) = true ∧ look s.hp e = some x ∧ Foot g e x b o) w' := hk.weak (fun b o x => ⟨d, r0, by simp, hl, x⟩)
  have hf' : ∀ e x b o, (e == d) = true → look (setL d r (s.mapC m).hp) e = some x → Foot g' e x b o → (∃ e' r', (e' == d) = true ∧ look s.hp e' = some r' ∧ Foot g e' r' b o) ∨ w.heap.size ≤ b := by
    intro e x b o h1 h2 h3
    have := ht' e h1; subst this
    rw [hld] at h2; cases h2
    rcases hfoot b o h3 with h4 | h4
    · exact .inl ⟨e, r0, by simp, hl, h4⟩
    · exact .inr h4
  have hle := rd_step (K := K) (g := g) (g' := g') (w := w) (w' := w') (h := s.hp) (h' := setL d r (s.mapC m).hp) h.hg (· == d) he (fun e x h1 h2 => let ⟨x0, h3, h4⟩ := hl' e x (ht e h1) h2; ⟨x0, m, h3, h4⟩) hk' hf'
  have k := h.hg.step (g' := g') (w' := w') (h' := setL d r (s.mapC m).hp) (· == d) m ok he (fun e x h1 h2 => let ⟨x0, h3, h4⟩ := hl' e x (ht e h1) h2; ⟨x0, h3, h4, hok2 e x0 h3⟩) hk' hf'
    (fun e e' x x' b o h1 h2 hne => absurd ((ht' e h1).trans (ht' e' h2).symm) hne) (fun u x hx hc => hm hle u x hx hc)
    (fun e x h1 h2 => by have := ht' e h1; subst this; rw [hld] at h2; cases h2; exact hh hle)
    (fun e cs h1 _ h2 => by have := ht' e h1; subst this; rw [hld] at h2; cases h2; exact absurd rfl (hnb cs))
    (fun e x h1 h2 _ b o hf => by
      have := ht' e h1; subst this
      rw [hld] at h2; cases h2
      rcases hfoot b o hf with h4 | h4
      · exact h.hg.new e r0 hl hr0 b o h4
      · exact .inl (Nat.le_trans h.hg.keep.size h4))
  refine ⟨⟨h.defers, h.size, h.few, k, fun t v hv => ?_⟩, hle⟩
  simp only [St.setR, St.mapC, look_map (fun v => SV.map m v)] at hv
  obtain ⟨v0, hv0, rfl⟩ := Option.map_eq_some_iff.1 hv
  obtain ⟨u, h1, h2⟩ := h.tmps t v0 hv0
  exact ⟨u, h1, h2.imp (p := ok) (fun v x hx hc => hm hle v x hx hc) (hok1 t v0 hv0)⟩
end

def preOf (s : St) : SV → Option (Nat × Nat × Nat × Nat × List (List SC) × Nat)
  | .c (.own d) => match look s.hp d with
    | some (.row e sz N xs) => some (d, e, sz, N, xs, N)
    | _ => none
  | .c (.row d m) => match look s.hp d with
    | some (.row e sz N xs) => some (d, e, sz, N, xs, m)
    | _ => none
  | _ => none
def appRArgs (P : Program) (s : St) (o : Oper) : Option (Nat × Nat × Nat × Nat × Nat × List (List SC) × Nat × List (List SC) × Cut) := match o.op with
  | .call { callee := .builtin .append, args := xs, argTypes := ts } => match xs.toList, ts.toList with
    | [x, y], [t, t'] => match P.underlying t with
      | some (.slice e) => match P.info? e with
        | some ie => match (opd s x).bind (preOf s), (opd s y).bind (srcS s ie.size) with
          | some (d, e', sz, N, a, m), some (b, c) => if t = t' ∧ ie.zero.map (·.cells.size) = some ie.size ∧ 0 < ie.size ∧ e' = e ∧ sz = ie.size then some (d, e, ie.size, ie.bytes, N, a, m, b, c) else none
          | _, _ => none
        | none => none
      | _ => none
    | _, _ => none
  | _ => none
theorem S_appR {α : Type} {P : Program} {K : Ctx} {n : Nat} {ops : Array Oper} {o : Oper} {s : St} {d e sz by_ N m : Nat} (f : α → List SC) (hone : ∀ x, (f x).all SC.one = true) {l1 l2 l' : List α} {c : Cut} (he : appO by_ (l1.take m) (c.app l2) = some l') (h : appRArgs P s o = some (d, e, sz, by_, N, l1.map f, m, l2.map f, c)) (hgd : guardOf ops o s = some true) (hd : dstOk n o = true) :
    Stp P K n ops o s (((s.mapC (SC.kill d)).setR d (.row e sz l'.length (l'.map f))).put o.dst (.c (.own d))) := by
  unfold appRArgs at h
  split at h
  rotate_left
  · cases h
  rename_i xs ts ho
  split at h
  rotate_left
  · cases h
  rename_i x y t t' hxs hts
  have hxs' : xs = #[x, y] := by rw [← Array.toArray_toList (xs := xs), hxs]
  have hts' : ts = #[t, t'] := by rw [← Array.toArray_toList (xs := ts), hts]
  subst hxs'
  subst hts'
  split at h
  rotate_left
  · cases h
  rename_i e1 hu
  split at h
  rotate_left
  · cases h
  rename_i ie hi
  split at h
  rotate_left
  · cases h
  rename_i d1 e1' sz1 N1 a1 m1 b1 c1 hx hy
  split at h
  rotate_left
  · cases h
  rename_i hq
  obtain ⟨rfl, hz, hs0, rfl, rfl⟩ := hq
  cases h
  obtain ⟨z, hz, hzc⟩ := Option.map_eq_some_iff.1 hz
  simp only [appO] at he
  split at he
  rotate_left
  · cases he
  rename_i hb
  cases he
  obtain ⟨vx, hx1, hx2⟩ := Option.bind_eq_some_iff.1 hx
  obtain ⟨vy, hy1, hy2⟩ := Option.bind_eq_some_iff.1 hy
  refine Stp_mk hgd fun g a w r K' Q hK => ?_
  have hview := r.view.o o
  have hvx := hview.op x _ (by simp [ho, Op.operands, Call.operands]) hx1
  have hsrc := srcS_rel hy2 hview (hview.op y _ (by simp [ho, Op.operands, Call.operands]) hy1)
  rw [Cut.map] at hsrc
  -- the beginning of the row
  obtain ⟨hl, hpre⟩ : look s.hp d = some (.row e ie.size N (l1.map f)) ∧ ∃ ax cx, (g.tk d).1 = .slice ax N cx ∧ a.eval x = .slice ax m cx ∧ m ≤ N := by
    unfold preOf at hx2
    split at hx2
    · split at hx2
      · rename_i hl
        cases hx2
        obtain ⟨us, h1, _⟩ := r.hg.holds d _ hl
        obtain ⟨ax, cx, k1, _⟩ := tk_slice h1
        obtain ⟨q1, _⟩ := hvx
        exact ⟨hl, ax, cx, k1, by rw [q1, k1], Nat.le_refl _⟩
      · cases hx2
    · split at hx2
      · rename_i hl
        cases hx2
        obtain ⟨us, h1, _⟩ := r.hg.holds d _ hl
        obtain ⟨ax, cx, k1, _⟩ := tk_slice h1
        obtain ⟨ax', N', cx', q1, q2, q3⟩ := hvx
        rw [k1] at q1
        cases q1
        exact ⟨hl, ax, cx, k1, q2, q3⟩
      · cases hx2
    · cases hx2
  obtain ⟨ax, cx, hV, hvx', hmN⟩ := hpre
  obtain ⟨us, hown, hlenx, hrowx⟩ := r.hg.holds d _ hl
  have hlx : l1.length = N := by rw [List.length_map] at hlenx; exact hlenx
  have hul := hown.1
  -- the beginning as a row by itself
  have hownm : w.ownsRow 0 e ie.size (.slice ax m cx) m (us.take (m * ie.size)) ∧ (Value.slice ax m cx).ownBlock = (g.tk d).1.ownBlock := by
    have hms : m * ie.size ≤ N * ie.size := Nat.mul_le_mul_right _ hmN
    refine ⟨⟨by rw [List.length_take, hul]; omega, ?_⟩, by rw [hV]; cases ax <;> rfl⟩
    rcases hown.2 with ⟨q1, q2⟩ | ⟨gb, cap, cur, q1, q2, q3, q4, q5, q6, q7⟩
    · rw [hV] at q1
      cases q1
      exact .inl ⟨by have : m = 0 := by omega
                     rw [this], by omega⟩
    · rw [hV] at q1
      cases q1
      refine .inr ⟨gb, cx, cur, rfl, q2, q3, by omega, q5, q6, ?_⟩
      rw [← q7, List.take_take, Nat.min_eq_left hms]
  obtain ⟨hownm, hblkm⟩ := hownm
  have hrowm : RowIs (rdOf K g s.hp w) ie.size (us.take (m * ie.size)) ((l1.take m).map f) := by
    have := hrowx.cut 0 m
    simpa [List.map_take] using this
  have hlm : (l1.take m).length = m := by rw [List.length_take]; omega
  rw [hlm] at hb
  unfold Oper.wp
  simp only [execOp, ho, resolve, invoke, builtin, Sem.run_bind, Sem.run_pure, Result.andThen_ok, List.map_toArray, List.map_cons, List.map_nil]
  rw [hvx']
  generalize hvy : a.eval y = uy at *
  obtain ⟨ay, cy, vals, rfl, hlv, hrow, hwhere, _⟩ := hsrc
  rw [List.length_map] at hlv ⊢
  generalize hl2' : c.app l2 = l2' at *
  have hlen : (l1.take m ++ l2').length = m + l2'.length := by rw [List.length_append, hlm]
  have hr2 : RowIs (rdOf K g s.hp w) ie.size (us.take (m * ie.size) ++ vals) ((l1.take m ++ l2').map f) := by
    rw [List.map_append]
    refine hrowm.append hrow ?_
    rw [List.length_map, hlm]
    exact hownm.1
  -- the run
  obtain ⟨V', w', q1, q2, q3, q4⟩ : ∃ V' w', (Builtin.append_ #[t, t] o.type #[.slice ax m cx, .slice ay l2'.length cy]).run P w = .ok V' w' ∧ w'.ownsRow 0 e ie.size V' (m + l2'.length) (us.take (m * ie.size) ++ vals) ∧ Keep w (Foot g d (.row e ie.size N (l1.map f))) w' ∧ ∀ k, V'.ownBlock = some k → (g.tk d).1.ownBlock = some k ∨ w.heap.size ≤ k := by
    by_cases hl2 : l2' = []
    · subst hl2
      have hv0 : vals = [] := List.eq_nil_of_length_eq_zero (by simpa using hlv)
      obtain ⟨_, _, k1, k2, _⟩ := tk_slice hownm
      injection k1 with _ _ k3
      refine ⟨_, w, run_append_zero t o.type e ie hu hi ax ay m cx cy (by rw [k3]; exact k2), by simpa [hv0] using hownm, Keep.refl _ _, fun k hk => .inl (by rw [← hblkm]; exact hk)⟩
    · have hpos : 0 < l2'.length := List.length_pos_iff.2 hl2
      obtain ⟨ad, rfl, hcells⟩ : ∃ ad, ay = some ad ∧ ∀ j v, vals[j]? = some v → w.cell? (ad.add j) = some v := by
        rcases hwhere with h0 | h0
        · exact absurd (List.map_eq_nil_iff.1 h0) hl2
        · exact h0
      have h1v := SrcIs.one hs0 (by rw [List.length_map]; exact hlv) hrow (fun x hx => by obtain ⟨y, _, rfl⟩ := List.mem_map.1 hx; exact hone y)
      obtain ⟨V', w', q1, q2, q3, q4⟩ := run_append_keep (P := P) t o.type e ie z ie.size ie.bytes hu hi hz rfl rfl hzc hs0 _ _ _ hownm ad l2'.length cy vals hlv hcells h1v hpos (by unfold maxLen; omega) hb.1
      exact ⟨V', w', q1, q2, q3.weak (fun b o h => by simp only [Foot]; rw [← hblkm]; exact h.1), fun k hk => by rw [← hblkm]; exact q4 k hk⟩
  rw [q1]
  simp only [Result.andThen_ok, Oper.upon]
  obtain ⟨aV', cV', hV', _, _, _, _⟩ := tk_slice q2
  let g' : Env := { pos := g.pos, tk := fun e => if e = d then (V', (g.tk d).2) else g.tk e }
  have hgd' : g'.tk d = (V', (g.tk d).2) := by simp [g']
  have hoth : Other g g' d := ⟨fun _ => rfl, fun e q => by simp [g', q], fun e => by by_cases q : e = d <;> simp [g', q]⟩
  obtain ⟨r1, hle⟩ := r.turn (g' := g') (w' := w') (r := .row e ie.size (l1.take m ++ l2').length ((l1.take m ++ l2').map f)) (SC.kill d) hl (fun _ => rfl) hoth.tk (fun _ => true) (fun _ v _ => v.every_true) (fun _ x _ => x.every_true) (fun hle v x _ hc => hc.kill hle hoth) q3 (fun b o' hf => by
      simp only [Foot, hgd'] at hf
      exact q4 b hf) (fun _ q => by cases q) rfl (fun hle => ⟨_, by rw [hgd', hlen]; exact q2, by simp, hr2.mono hle⟩)
  refine hK _ _ ⟨g', r1.put o.dst (dstOk_spec hd) ?_⟩
  simp only [VRel, CRel, CRel0]
  rw [hgd']
  exact ⟨rfl, .inl ⟨_, _, _, hV'⟩⟩

def SC.settle0 (d sz n : Nat) (xs : List (List SC)) : SC → SC
  | .own e => if e = d then .slc sz (d + 2) n xs else .own e
  | .ex e => if e = d then .slc sz 1 n xs else .ex e
  | .row e m => if e = d then .slc sz 0 m (xs.take m) else .row e m
  | x => x.kill0 d
def SC.settle (d sz n : Nat) (xs : List (List SC)) : SC → SC
  | .clo f cs => .clo f (cs.map (SC.settle0 d sz n xs))
  | x => x.settle0 d sz n xs
def noTag0 (d : Nat) : SC → Bool
  | .slc _ tag _ _ => tag != d + 2
  | _ => true
def noTag (d : Nat) : SC → Bool
  | .clo _ cs => cs.all (noTag0 d)
  | x => noTag0 d x
def settleS (s : St) (d : Nat) : Option St := match look s.hp d with
  | some (.row e sz n xs) => if s.tmps.all (fun p => p.2.every (noTag d)) && s.hp.all (fun p => p.2.every (noTag d)) then some ((s.mapC (SC.settle d sz n xs)).setR d (.spare e sz n)) else none
  | _ => none
/-- the spare token of one name is another -/
structure Other2 (g g' : Env) (d0 : Nat) : Prop where
  pos : ∀ d, g'.pos d = g.pos d
  tk : ∀ d, d ≠ d0 → g'.tk d = g.tk d
  tk1 : ∀ d, (g'.tk d).1 = (g.tk d).1
theorem CRel0.settle {rd rd' : Rd} (hle : rd.le rd') {g g' : Env} {d0 sz n : Nat} {xs : List (List SC)} (k : Other2 g g' d0) (hn : ∀ v, CRel0 rd g v (.own d0) → CRel0 rd' g' v (.slc sz (d0 + 2) n xs)) (hn2 : ∀ v m, CRel0 rd g v (.row d0 m) → CRel0 rd' g' v (.slc sz 0 m (xs.take m))) {v : Value} {x : SC} (hx : noTag0 d0 x = true) (h : CRel0 rd g v x) : CRel0 rd' g' v (x.settle0 d0 sz n xs) := by
  cases x with
  | lit u => exact h.mono hle
  | ref cs => exact h.mono hle
  | box d off => simp only [SC.settle0, SC.kill0, CRel0, k.pos] at *; exact h
  | own d =>
    simp only [SC.settle0]
    split
    · rename_i hd; subst hd; exact hn v h
    · simp only [CRel0, k.tk1] at *; exact h
  | row d n =>
    simp only [SC.settle0]
    split
    · rename_i hd; subst hd; exact hn2 v n h
    · simp only [CRel0, k.tk1] at *; exact h
  | win d off n => simp only [SC.settle0, SC.kill0, CRel0, k.pos] at *; exact h
  | sub d s a n => simp only [SC.settle0, SC.kill0]; split; · trivial
                   · simp only [CRel0, k.tk1] at *; exact h
  | elt d s i off => simp only [SC.settle0, SC.kill0]; split; · trivial
                     · simp only [CRel0, k.tk1] at *; exact h
  | ex d =>
    simp only [SC.settle0]
    split
    · rename_i hd
      subst hd
      have h1 : CRel0 rd g v (.own d) := by
        refine ⟨h.1, ?_⟩
        rcases h.2 with q | ⟨a, m, q⟩
        · exact .inl ⟨none, 0, 0, by rw [← h.1]; exact q⟩
        · exact .inl ⟨some a, m, m, by rw [← h.1]; exact q⟩
      have h2 := (hn v h1).1
      refine ⟨h2, ?_⟩
      rcases h.2 with q | ⟨a, m, q⟩
      · exact .inl q
      · refine .inr ⟨a, ?_⟩
        subst q
        cases h2 with
        | nil => rfl
        | slc => rfl
    · simp only [CRel0, k.tk1] at *; exact h
  | any => trivial
  | clo c cs => exact h.elim
  | slc s tag n xs =>
    refine ⟨h.1.mono hle, ?_⟩
    rcases tag with _ | _ | t
    · trivial
    · exact h.2
    · have h2 := h.2
      have ht : t ≠ d0 := by
        intro q; subst q
        simp [noTag0] at hx
      simp only [Tag, k.tk t ht] at h2 ⊢
      exact h2
theorem CRel.settle {rd rd' : Rd} (hle : rd.le rd') {g g' : Env} {d0 sz n : Nat} {xs : List (List SC)} (k : Other2 g g' d0) (hn : ∀ v, CRel0 rd g v (.own d0) → CRel0 rd' g' v (.slc sz (d0 + 2) n xs)) (hn2 : ∀ v m, CRel0 rd g v (.row d0 m) → CRel0 rd' g' v (.slc sz 0 m (xs.take m))) {v : Value} {x : SC} (hx : noTag d0 x = true) (h : CRel rd g v x) : CRel rd' g' v (x.settle d0 sz n xs) := by
  cases x with
  | clo c cs =>
    obtain ⟨caps, h1, h2, h3⟩ := h
    refine ⟨caps, h1, by simpa using h2, fun j y hy => ?_⟩
    rw [List.getElem?_map] at hy
    obtain ⟨y0, hy0, rfl⟩ := Option.map_eq_some_iff.1 hy
    obtain ⟨u, h4, h5⟩ := h3 j y0 hy0
    exact ⟨u, h4, h5.settle hle k hn hn2 (List.all_eq_true.1 hx y0 (List.mem_of_getElem? hy0))⟩
  | lit u => exact CRel0.up (CRel0.settle hle k hn hn2 (x := .lit u) hx h)
  | ref u => exact CRel0.up (CRel0.settle hle k hn hn2 (x := .ref u) hx h)
  | box d off => exact CRel0.up (CRel0.settle hle k hn hn2 (x := .box d off) hx h)
  | own d => exact CRel0.up (CRel0.settle hle k hn hn2 (x := .own d) hx h)
  | row d n => exact CRel0.up (CRel0.settle hle k hn hn2 (x := .row d n) hx h)
  | win d off n => exact CRel0.up (CRel0.settle hle k hn hn2 (x := .win d off n) hx h)
  | sub d s a n => exact CRel0.up (CRel0.settle hle k hn hn2 (x := .sub d s a n) hx h)
  | elt d s i off => exact CRel0.up (CRel0.settle hle k hn hn2 (x := .elt d s i off) hx h)
  | ex d => exact CRel0.up (CRel0.settle hle k hn hn2 (x := .ex d) hx h)
  | any => trivial
  | slc s tag n xs => exact CRel0.up (CRel0.settle hle k hn hn2 (x := .slc s tag n xs) hx h)
theorem R.settle {K : Ctx} {w : World} {n : Nat} {a : Act} {s s' : St} {d : Nat} (h : R K n a w s) (hs : settleS s d = some s') : R K n a w s' := by
  obtain ⟨g, h⟩ := h
  unfold settleS at hs
  split at hs
  rotate_left
  · cases hs
  rename_i e sz N xs hl
  split at hs
  rotate_left
  · cases hs
  rename_i hq
  cases hs
  simp only [Bool.and_eq_true, List.all_eq_true] at hq
  obtain ⟨us, h1, h2, h3⟩ := h.hg.holds d _ hl
  obtain ⟨aV, cV, hV, hVc, hVm, hvl, hblk⟩ := tk_slice h1
  let g' : Env := { pos := g.pos, tk := fun e => if e = d then ((g.tk d).1, (g.tk d).1) else g.tk e }
  have hgd' : g'.tk d = ((g.tk d).1, (g.tk d).1) := by simp [g']
  have hoth : Other2 g g' d := ⟨fun _ => rfl, fun e q => by simp [g', q], fun e => by by_cases q : e = d <;> simp [g', q]⟩
  refine ⟨g', (h.turn (g' := g') (w' := w) (r := .spare e sz N) (SC.settle d sz N xs) hl (fun _ => rfl) hoth.tk (noTag d) (fun t v hv => hq.1 _ (look_mem hv)) (fun e x hx => hq.2 _ (look_mem hx)) (fun hle v x hx hc => hc.settle hle hoth (fun v hv => ?_) (fun v m hv => ?_) hx) (Keep.refl _ _) (fun b o' hf => .inl (by
      simp only [Foot, hgd'] at hf ⊢
      exact hf.1)) (fun _ q => by cases q) rfl (fun hle => ⟨us, by rw [hgd']; exact h1.m⟩)).1⟩
  all_goals (
    have hread : ∀ bb, (g.tk d).1.ownBlock = some bb → ∀ k v, us[k]? = some v → k < N * sz → rdOf K g' (setL d (.spare e sz N) (s.mapC (SC.settle d sz N xs)).hp) w bb k = some v := by
      intro bb hbk k v hv hk
      have hcell := h1.cells hbk k v hv
      rw [addr_add, Nat.zero_add] at hcell
      unfold rdOf
      rw [if_neg, if_neg (fun q => (h.hg.new d _ hl rfl bb k hbk).elim (fun q2 => Nat.not_lt.2 q2 q.1) q.2)]
      · exact hcell
      · rintro ⟨d2, x2, k1, k2⟩
        rw [look_setL] at k1
        split at k1
        · rename_i hdd
          cases k1
          simp only [Foot] at k2
          omega
        · rename_i hdd
          simp only [St.mapC, look_map (fun x => Res.map (SC.settle d sz N xs) x)] at k1
          obtain ⟨x0, k3, rfl⟩ := Option.map_eq_some_iff.1 k1
          rw [foot_map, foot_env (g := g) (g' := g') ⟨rfl, hoth.tk d2 (Ne.symm hdd)⟩] at k2
          exact h.hg.dis d2 d x0 _ bb k (Ne.symm hdd) k3 hl k2 hbk)
  · obtain ⟨rfl, _⟩ := hv
    refine ⟨?_, ?_⟩
    · rcases hblk with h0 | ⟨bb, hbb, hbk⟩
      · have hx : xs = [] := List.eq_nil_of_length_eq_zero (h2.trans h0)
        subst hx
        rw [hV, h0]
        exact .nil sz _ _ hVm
      · rw [hV, hbb]
        exact row_is (b := bb) (vals := us) (h3.mono hle) h2 hVc hVm (fun k v hv hk => hread bb hbk k v hv hk)
    · show _ ≤ vlen (g'.tk d).2 ∧ (_ = vlen (g'.tk d).2 → (g.tk d).1 = (g'.tk d).2)
      rw [hgd', hvl]
      exact ⟨Nat.le_refl _, fun _ => rfl⟩
  · obtain ⟨aV', N', cV', q1, rfl, q3⟩ := hv
    rw [hV] at q1
    cases q1
    refine ⟨?_, trivial⟩
    rcases hblk with h0 | ⟨bb, hbb, hbk⟩
    · have hm0 : m = 0 := by omega
      subst hm0
      exact .nil sz _ _ hVm
    · rw [hbb]
      have hcut := h3.cut 0 m
      rw [Nat.zero_mul, List.drop_zero, List.drop_zero] at hcut
      have hms : m * sz ≤ N * sz := Nat.mul_le_mul_right _ q3
      refine row_is (b := bb) (vals := us.take (m * sz)) (hcut.mono hle) (by rw [List.length_take]; omega) (by omega) hVm (fun k v hv hk => hread bb hbk k v ?_ (by omega))
      rw [List.getElem?_take, if_pos hk] at hv
      exact hv
theorem TS_settle {P : Program} {K : Ctx} {n : Nat} {Q : Exit → St → Prop} {C : Cfg} (d : Nat) (he : C.pre = true) (k : TS P K n (C.st2 (settleS C.st d)) Q) : TS P K n C Q := TS_st2 (fun _ _ _ hs r => r.settle hs) he k
end
section
open Go.RowKit

section
variable {P : Program} {o : Oper} {s : St} {α : Type}
/-- all of the memory -/
def allRd (w : World) : Rd := fun b o => w.cell? ⟨b, o, none⟩
theorem SrcIs.irel {rd : Rd} {w : World} {u : Value} {sz : Nat} {xs : List (List SC)} (h : SrcIs rd w u sz xs) (hr : ∀ b o v, rd b o = some v → w.cell? ⟨b, o, none⟩ = some v) : IRel (allRd w) u (.slc sz 0 xs.length xs) := by
  obtain ⟨a, c, vals, rfl, h1, h2, h3, h4, h5, h6⟩ := h
  rcases h3 with h3 | ⟨ad, rfl, h3⟩
  · subst h3
    exact .nil sz a c h5
  · rcases h6 ad rfl with h6 | ⟨b, o, rfl⟩
    · subst h6
      exact .nil sz _ c h5
    · have hu : ∀ i x j y, xs[i]? = some x → x[j]? = some y → ∃ u, vals[i * sz + j]? = some u ∧ IRel rd u y := fun i x j y => h2.2 i x j y
      refine .slc b o _ c sz xs (fun i j => (vals[i * sz + j]?).getD undef) rfl h4 h5 h2.1 (fun i x j y hx hy => ?_) (fun i x j y hx hy => ?_)
      · obtain ⟨u, q1, q2⟩ := hu i x j y hx hy
        have := h3 _ _ q1
        rw [addr_add, ← Nat.add_assoc] at this
        rw [q1]
        exact this
      · obtain ⟨u, q1, q2⟩ := hu i x j y hx hy
        rw [q1]
        exact q2.mono hr
/-- an argument as something that is only read -/
def frz (s : St) (ks : List Nat) : SV → Option SV
  | .c (.own d) => match look s.hp d with
    | some (.row _ sz n xs) => some (.c (.slc sz 0 n xs))
    | _ => none
  | .c (.win d off m) => match srcS s 1 (.c (.win d off m)) with
    | some (xs, .whole) => some (.c (.slc 1 0 xs.length xs))
    | _ => none
  | v => some (castV ks v)
theorem frz_rel {ks : List Nat} {v A : SV} (h : frz s ks v = some A) {g : Env} {rd : Rd} {a : Act} {w : World} {o : Oper} (hv : OView g rd a w s o) {u : Value} (hu : VRel rd g u v) : VRel (allRd w) g u A := by
  unfold frz at h
  split at h
  · rename_i d
    split at h
    · rename_i e sz n xs hl
      have hsrc := srcS_rel (sz := sz) (v := .c (.own d)) (xs := xs) (c := .whole) (by simp [srcS, hl]) hv hu
      obtain ⟨us, _, h2, _⟩ := hv.holds d _ hl
      cases h
      rw [← h2]
      exact ⟨hsrc.irel hv.reads, trivial⟩
    · cases h
  · rename_i d off m
    split at h
    · rename_i xs hs
      cases h
      exact ⟨(srcS_rel hs hv hu).irel hv.reads, trivial⟩
    · cases h
  · cases h
    exact castV_rel ks (hu.mono (fun b o v => hv.reads b o v))
def frzL (s : St) : List (List Nat) → List SV → Option (List SV)
  | _, [] => some []
  | kss, v :: vs => match frz s (kss.headD []) v, frzL s kss.tail vs with
    | some A, some As => some (A :: As)
    | _, _ => none
theorem frzL_spec {s : St} : ∀ (kss : List (List Nat)) (vs As : List SV), frzL s kss vs = some As → vs.length = As.length ∧ ∀ (i : Nat) (v A : SV), vs[i]? = some v → As[i]? = some A → ∃ ks, frz s ks v = some A
  | _, [], As, h => by cases h; exact ⟨rfl, fun i v A h1 => by simp at h1⟩
  | kss, v :: vs, As, h => by
    simp only [frzL] at h
    split at h
    · rename_i A As' h1 h2
      cases h
      obtain ⟨k1, k2⟩ := frzL_spec kss.tail vs As' h2
      refine ⟨by simp [k1], fun i v' A' hv hA => ?_⟩
      cases i with
      | zero => simp at hv hA; subst hv; subst hA; exact ⟨_, h1⟩
      | succ i => simp at hv hA; exact k2 i v' A' hv hA
    · cases h
def SC.isLit : SC → Bool
  | .lit _ => true
  | _ => false
theorem lit_any {rd rd' : Rd} {g g' : Env} {v : Value} {x : SC} (hx : x.isLit = true) (h : CRel rd g v x) : CRel rd' g' v x := by
  cases x <;> simp only [SC.isLit, Bool.false_eq_true] at hx
  have := rel_lit (g := g) h
  subst this
  exact .lit _
/-- a call that reads, and returns numbers -/
theorem grow_conF {r : SV} {f : FuncId} {vs args : List SV} (kss : List (List Nat)) (hc : calleeOf s o = some (f, vs)) (hb : hasBody P f = true) (hargs : frzL s kss vs = some args) (hr : r.every SC.isLit = true) (hp : Con P f args [] r []) : GrowOp P o s r := by
  intro g rd a w hview
  obtain ⟨us, h1, h2, h3⟩ := callee_spec hc hb hview
  obtain ⟨k1, k2⟩ := frzL_spec kss vs args hargs
  have hcalls := hp (allRd w) g w us (fun _ _ _ h => h) (by rw [h1, k1]) (fun i y hy => by
    have hi : i < vs.length := by have := (List.getElem?_eq_some_iff.1 hy).1; omega
    obtain ⟨u, q1, q2⟩ := h2 i _ (List.getElem?_eq_getElem hi)
    obtain ⟨ks, q3⟩ := k2 i _ y (List.getElem?_eq_getElem hi) hy
    exact ⟨u, q1, frz_rel q3 hview q2⟩) (fun d x hx => by simp [look] at hx) (fun d d' x x' b o _ hx => by simp [look] at hx) (fun b o hx => (infoot_nil hx).elim)
  unfold mSafe
  rw [h3]
  refine hcalls.mono fun e w' hq => ?_
  obtain ⟨u, g', rfl, hk, _, _, _, _, hpost⟩ := hq
  have he : Ext w w' := (hk.weak (fun b o x => (infoot_nil x))).ext
  refine ⟨u, rfl, he, fun rd' _ _ => ?_⟩
  exact ((hpost (allRd w') (fun b o v hv => (Keep.of_ext he).cell hv (by simp)) (fun b o u _ _ h2 => h2)).1).imp1 (fun v x hx k => lit_any hx k) hr

def u8L (l : List Int) : List UInt8 := l.map fun n => n.toNat.toUInt8
end
end
section
open Go.RowKit

section
variable {P : Program} {o : Oper} {s : St} {α : Type}
def winArgs (P : Program) (s : St) (o : Oper) : Option (Nat × Nat × Nat × Int × Int) := match o.op with
  | .slice t x lo hi none => match opd s x, P.underlying t with
    | some (.c (.box d off)), some (.array n e) => match s.lookB d with
      | some cs => match P.info? e, bnd s 0 lo, bnd s n hi with
        | some ie, some (_, a), some (_, b) => if ie.size = 1 ∧ off + n ≤ cs.length then some (d, off, n, a, b) else none
        | _, _, _ => none
      | none => none
    | _, _ => none
  | _ => none
theorem grow_win {d off n : Nat} {a b : Int} (h : winArgs P s o = some (d, off, n, a, b)) (hc : decide (0 ≤ a ∧ a ≤ b ∧ b ≤ (n : Int)) = true) (hn : decide (n ≤ 140737488355328) = true) : GrowOp P o s (.c (.win d (off + a.toNat) (b.toNat - a.toNat))) := by
  unfold winArgs at h
  split at h
  rotate_left
  · cases h
  rename_i t xo lo hi ho
  split at h
  rotate_left
  · cases h
  rename_i d1 off1 n1 e1 hx hu
  split at h
  rotate_left
  · cases h
  rename_i cs hl
  split at h
  rotate_left
  · cases h
  rename_i ie vlo a1 vhi b1 hie hlo hhi
  split at h
  rotate_left
  · cases h
  rename_i hq
  cases h
  obtain ⟨hsz, hlen⟩ := hq
  obtain ⟨c0, c1, c2⟩ := of_decide_eq_true hc
  have hn' := of_decide_eq_true hn
  refine PureOp.grow fun g rd A w hview => ?_
  have hv := hview.op xo _ (by simp [ho, Op.operands]) hx
  simp only [VRel, CRel, CRel0] at hv
  obtain ⟨q1, q2⟩ := bnd_spec hlo
  obtain ⟨q3, q4⟩ := bnd_spec hhi
  have hk := run_bounds (P := P) (A := A) hview (lo := lo) (hi := hi) (fun y hy => by subst hy; simp [ho, Op.operands]) (fun y hy => by subst hy; cases lo <;> simp [ho, Op.operands]) false (len := n) (cap := n) q1 q3 q2 q4 c0 c1 c2 (Nat.le_refl _)
  refine ⟨_, by
    simp only [execOp, ho, Option.map_none, Instr.sliceAt, Instr.sureAddr, run_underlying hu, hv, hk, sizeOf, typeInfo, program, hie, Sem.run_bind, Sem.run_pure, Sem.run, Result.andThen_ok, hsz]
    rfl, ?_⟩
  refine ⟨_, _, rfl, by omega, by unfold maxLen; omega, ?_⟩
  by_cases hz : b.toNat - a.toNat = 0
  · exact .inl hz
  · right
    rw [if_neg (by omega)]
    simp only [addr_add, Nat.mul_one, Nat.add_assoc]

def idxAArgs (P : Program) (s : St) (o : Oper) : Option (Nat × Nat × Nat × Int) := match o.op with
  | .indexAddr t x y => match opd s x, opd s y, P.underlying t with
    | some (.c (.box d off)), some (.c (.lit (.int _ i))), some (.array n e) => match P.info? e with
      | some ie => if ie.size = 1 then some (d, off, n, i) else none
      | none => none
    | _, _, _ => none
  | _ => none
theorem grow_idxA {d off n : Nat} {i : Int} (h : idxAArgs P s o = some (d, off, n, i)) (hc : decide (0 ≤ i ∧ i < (n : Int)) = true) : GrowOp P o s (.c (.box d (off + i.toNat))) := by
  unfold idxAArgs at h
  split at h
  rotate_left
  · cases h
  rename_i t xo yo ho
  split at h
  rotate_left
  · cases h
  rename_i d1 off1 k1 i1 n1 e1 hx hy hu
  split at h
  rotate_left
  · cases h
  rename_i ie hie
  split at h
  rotate_left
  · cases h
  rename_i hsz
  cases h
  obtain ⟨c0, c1⟩ := of_decide_eq_true hc
  exact PureOp.grow (pure_indexArr (s := s) n 1 i i.toNat ho hx hy hu (by rw [hie, Option.map_some, hsz]) c0 c1 (by rw [Nat.mul_one]) rfl)
/-- the numbers of an array -/
theorem arrS_get {k : IntKind} {n : Nat} {l : List Int} {i : Nat} (h : i < n) : (arrS k n l)[i]? = some (.lit (.int k (l.getD i 0))) := by
  simp [arrS, List.getElem?_map, List.getElem?_range h]
def ldAArgs (P : Program) (k : IntKind) (off n : Nat) (s : St) (o : Oper) : Option (Nat × List SC) := match o.op with
  | .load t p => match opd s p, P.underlying t with
    | some (.c (.box d off')), some (.int k') => match s.lookB d, P.info? t with
      | some cs, some it => if k' = k ∧ it.size = 1 ∧ aggT P t = false then some (off', (cs.drop off).take n) else none
      | _, _ => none
    | _, _ => none
  | _ => none
theorem grow_ldA {k : IntKind} {off n : Nat} {i : Int} {l : List Int} (hc : decide (0 ≤ i ∧ i < (n : Int)) = true) (h : ldAArgs P k off n s o = some (off + i.toNat, arrS k n l)) : GrowOp P o s (int k (l.getD i.toNat 0)) := by
  unfold ldAArgs at h
  split at h
  rotate_left
  · cases h
  rename_i t po ho
  split at h
  rotate_left
  · cases h
  rename_i d off' k' hp hu
  split at h
  rotate_left
  · cases h
  rename_i cs it hl hit
  split at h
  rotate_left
  · cases h
  rename_i hq
  obtain ⟨rfl, hsz, hagg⟩ := hq
  injection h with h
  injection h with h1 h2
  subst h1
  obtain ⟨c0, c1⟩ := of_decide_eq_true hc
  have hin : i.toNat < n := by omega
  have hget : cs[off + i.toNat]? = some (.lit (.int k' (l.getD i.toNat 0))) := by
    have := arrS_get (k := k') (n := n) (l := l) hin
    rw [← h2, List.getElem?_take, if_pos hin, List.getElem?_drop] at this
    exact this
  have hdrop : cs.drop (off + i.toNat) = .lit (.int k' (l.getD i.toNat 0)) :: cs.drop (off + i.toNat + 1) := by
    have hlt := (List.getElem?_eq_some_iff.1 hget).1
    rw [List.drop_eq_getElem_cons hlt]
    congr 1
    exact (List.getElem?_eq_some_iff.1 hget).2
  refine PureOp.grow (pure_load (cs := cs.drop (off + i.toNat)) ho hp (by simp [cellsAt, hl]) ?_)
  simp only [wrapT, hu, hit, hagg, hdrop]
  rfl
def setA (n : Nat) (l : List Int) (i : Nat) (v : Int) : List Int := (List.range n).map fun j => if j = i then v else l.getD j 0
theorem setA_arr {k : IntKind} {n : Nat} {l : List Int} {i : Nat} {v : Int} : arrS k n (setA n l i v) = (arrS k n l).set i (.lit (.int k v)) := by
  apply List.ext_getElem?
  intro j
  by_cases hj : j < n
  · rw [arrS_get hj, List.getElem?_set]
    by_cases hij : i = j
    · subst hij
      rw [if_pos rfl, if_pos (by simpa [arrS] using hj)]
      simp [setA, List.getD, List.getElem?_map, List.getElem?_range hj]
    · rw [if_neg hij, arrS_get hj]
      simp [setA, List.getD, List.getElem?_map, List.getElem?_range hj, Ne.symm hij]
  · rw [List.getElem?_eq_none (by simp [arrS]; omega), List.getElem?_eq_none (by simp [arrS]; omega)]
def stAArgs (P : Program) (k : IntKind) (off n : Nat) (s : St) (o : Oper) : Option (Nat × Nat × List SC × List SC × List SC × Int) := match o.op with
  | .store t p x => match opd s p, opd s x, P.info? t, o.dst with
    | some (.c (.box d off')), some (.c (.lit (.int k' v))), some it, none => match s.lookB d with
      | some cs => if k' = k ∧ it.size = 1 then some (d, off', cs.take off, (cs.drop off).take n, cs.drop (off + n), v) else none
      | none => none
    | _, _, _, _ => none
  | _ => none
theorem S_stA {K : Ctx} {m : Nat} {ops : Array Oper} {k : IntKind} {d off n : Nat} {i v : Int} {l : List Int} {pre post : List SC} (hc : decide (0 ≤ i ∧ i < (n : Int)) = true) (hpre : decide (pre.length = off) = true) (h : stAArgs P k off n s o = some (d, off + i.toNat, pre, arrS k n l, post, v)) (hgd : guardOf ops o s = some true) :
    Stp P K m ops o s ((s.setR d (.box (pre ++ arrS k n (setA n l i.toNat v) ++ post))).put o.dst (.tup [])) := by
  unfold stAArgs at h
  split at h
  rotate_left
  · cases h
  rename_i t po xo ho
  split at h
  rotate_left
  · cases h
  rename_i d1 off' k' v' it hp hx hit hdst
  split at h
  rotate_left
  · cases h
  rename_i cs hl
  split at h
  rotate_left
  · cases h
  rename_i hq
  obtain ⟨rfl, hsz⟩ := hq
  injection h with h
  simp only [Prod.mk.injEq] at h
  obtain ⟨rfl, rfl, h3, h4, h5, rfl⟩ := h
  obtain ⟨c0, c1⟩ := of_decide_eq_true hc
  have hin : i.toNat < n := by omega
  have hpl := of_decide_eq_true hpre
  have hal : (arrS k' n l).length = n := by simp [arrS]
  have hcs : cs = pre ++ arrS k' n l ++ post := by
    rw [← h3, ← h4, ← h5]
    rw [List.append_assoc, ← List.drop_drop, List.take_append_drop, List.take_append_drop]
  have hov : over cs (off + i.toNat) [.lit (.int k' v')] = pre ++ arrS k' n (setA n l i.toNat v') ++ post := by
    rw [setA_arr, hcs]
    unfold over
    simp only [List.length_singleton]
    apply List.ext_getElem?
    intro q
    have e1 := over_get (cs := pre ++ arrS k' n l ++ post) (ds := [.lit (.int k' v')]) (off := off + i.toNat) (by simp [hal, hpl]; omega) q
    unfold over at e1
    simp only [List.length_singleton] at e1
    rw [e1]
    simp only [List.getElem?_append, List.length_append, List.length_set, hal, hpl, List.getElem?_set]
    by_cases h1 : q < off
    · simp [h1, show q < off + n by omega]
      omega
    · by_cases h2 : q < off + n
      · by_cases h6 : q = off + i.toNat
        · subst h6
          simp [hin, h1]
        · have : ¬ (off + i.toNat ≤ q ∧ q < off + i.toNat + 1) := by omega
          have h7 : ¬ (i.toNat = q - off) := by omega
          simp [h1, h2, this, h7]
      · have : ¬ (off + i.toNat ≤ q ∧ q < off + i.toNat + 1) := by omega
        simp [h2, this]
  have := S_store (P := P) (K := K) (n := m) (ops := ops) (s := s) d1 (off + i.toNat) cs [.lit (.int k' v')] ho hdst hgd hp hx rfl hl (by rw [hit]; simp [hsz]) rfl (by rw [hcs]; simp [hal, hpl]; omega)
  rw [hov] at this
  rw [hdst]
  exact this
end

section
variable {P : Program} {n : Nat} {ops : Array Oper} {o : Oper} {need : St} {α : Type}
theorem Sub.srcS {s s' : St} (h : Sub s s') {sz : Nat} {v : SV} {q : List (List SC) × Cut} (k : srcS s sz v = some q) : Go.Proofs.YtplihihjfjmbfaaGreat.srcS s' sz v = some q := by
  unfold Go.Proofs.YtplihihjfjmbfaaGreat.srcS at k ⊢
  split at k <;> (try exact k)
  all_goals (
    split at k
    · rename_i hl
      first
        | rw [h.h _ _ hl]
        | rw [h.lookB hl]
      exact k
    · cases k)
theorem Sub.bindSrc {s s' : St} (h : Sub s s') {sz : Nat} {x : Operand} {q : List (List SC) × Cut} (k : (Go.Proofs.YtplihihjfjmbfaaGreat.opd s x).bind (Go.Proofs.YtplihihjfjmbfaaGreat.srcS s sz) = some q) : (Go.Proofs.YtplihihjfjmbfaaGreat.opd s' x).bind (Go.Proofs.YtplihihjfjmbfaaGreat.srcS s' sz) = some q := by
  obtain ⟨v, h1, h2⟩ := Option.bind_eq_some_iff.1 k
  rw [h.opd h1]
  exact h.srcS h2
theorem Sub.appT {s s' : St} (h : Sub s s') {q : Nat × Nat × Nat × Nat × Nat × Nat × List (List SC) × List (List SC) × Cut} (k : appTArgs P s o = some q) : appTArgs P s' o = some q := by
  unfold appTArgs at k ⊢
  split at k
  rotate_left
  · cases k
  split at k
  rotate_left
  · cases k
  rename_i x y t t' hxs hts
  try rw [hxs, hts]
  try simp only
  split at k
  rotate_left
  · cases k
  rename_i e hu
  try rw [hu]
  try simp only
  split at k
  rotate_left
  · cases k
  rename_i ie hie
  try rw [hie]
  try simp only
  split at k
  rotate_left
  · cases k
  rename_i sz d N a b c hx hy
  rw [h.opd hx, h.bindSrc hy]
  try simp only
  split at k
  rotate_left
  · cases k
  rename_i e' sz' N' hl
  rw [h.h _ _ hl]
  exact k
theorem Sub.pre {s s' : St} (h : Sub s s') {v : SV} {q : Nat × Nat × Nat × Nat × List (List SC) × Nat} (k : preOf s v = some q) : preOf s' v = some q := by
  unfold preOf at k ⊢
  split at k
  · split at k
    · rename_i hl
      simp only [h.h _ _ hl]
      exact k
    · cases k
  · split at k
    · rename_i hl
      simp only [h.h _ _ hl]
      exact k
    · cases k
  · cases k
theorem Sub.bindPre {s s' : St} (h : Sub s s') {x : Operand} {q : Nat × Nat × Nat × Nat × List (List SC) × Nat} (k : (Go.Proofs.YtplihihjfjmbfaaGreat.opd s x).bind (preOf s) = some q) : (Go.Proofs.YtplihihjfjmbfaaGreat.opd s' x).bind (preOf s') = some q := by
  obtain ⟨v, h1, h2⟩ := Option.bind_eq_some_iff.1 k
  rw [h.opd h1]
  exact h.pre h2
theorem Sub.appR {s s' : St} (h : Sub s s') {q : Nat × Nat × Nat × Nat × Nat × List (List SC) × Nat × List (List SC) × Cut} (k : appRArgs P s o = some q) : appRArgs P s' o = some q := by
  unfold appRArgs at k ⊢
  split at k
  rotate_left
  · cases k
  split at k
  rotate_left
  · cases k
  rename_i x y t t' hxs hts
  try rw [hxs, hts]
  try simp only
  split at k
  rotate_left
  · cases k
  rename_i e hu
  try rw [hu]
  try simp only
  split at k
  rotate_left
  · cases k
  rename_i ie hie
  try rw [hie]
  try simp only
  split at k
  rotate_left
  · cases k
  rename_i hx hy
  rw [h.bindPre hx, h.bindSrc hy]
  exact k
theorem Sub.stA {s s' : St} (h : Sub s s') {k : IntKind} {off m : Nat} {q : Nat × Nat × List SC × List SC × List SC × Int} (kk : stAArgs P k off m s o = some q) : stAArgs P k off m s' o = some q := by
  unfold stAArgs at kk ⊢
  split at kk
  rotate_left
  · cases kk
  split at kk
  rotate_left
  · cases kk
  rename_i d off' k' v it hp hx hit hdst
  rw [h.opd hp, h.opd hx, hit, hdst]
  try simp only
  split at kk
  rotate_left
  · cases kk
  rename_i cs hl
  rw [h.lookB hl]
  exact kk
theorem vd_stA {k : IntKind} {d off m : Nat} {i v : Int} {l : List Int} {pre post : List SC} (hc : decide (0 ≤ i ∧ i < (m : Int)) = true) (hpre : decide (pre.length = off) = true) (h : stAArgs P k off m need o = some (d, off + i.toNat, pre, arrS k m l, post, v)) (hg : guardOf ops o need = some true) :
    VD P n ops o ⟨need, o.dst, .tup [], some (d, .box (pre ++ arrS k m (setA m l i.toNat v) ++ post)), false, none⟩ :=
  fun _K _s hs _ => S_stA hc hpre (hs.stA h) (hs.guard hg)
theorem vd_upd {d : Nat} {r0 r : Res} {v : SV} (hp : UpdOp P o need d r0 r v) (hg : guardOf ops o need = some true) (hd : dstOk n o = true) : VD P n ops o ⟨need, o.dst, v, some (d, r), false, none⟩ :=
  fun _K _s hs _ => S_upd (hs.upd hp) (hs.guard hg) hd
theorem vd_ownT {e sz : Nat} {xs : List (List SC)} (d : Nat) (hp : OwnOp P o need e sz xs) (hg : guardOf ops o need = some true) (hdst : o.dst = some d) (hd : d < n) (hd6 : d < 1000000) : VD P n ops o ⟨need, some d, .c (.slc sz (d + 2) xs.length xs), some (d, .spare e sz xs.length), true, none⟩ :=
  fun _K _s hs hn => S_ownT d (hs.own hp) (hs.guard hg) hdst hd hd6 (hn rfl)
theorem vd_ownR {e sz : Nat} {xs : List (List SC)} (d : Nat) (hp : OwnOp P o need e sz xs) (hg : guardOf ops o need = some true) (hdst : o.dst = some d) (hd : d < n) (hd6 : d < 1000000) : VD P n ops o ⟨need, some d, .c (.own d), some (d, .row e sz xs.length xs), true, none⟩ :=
  fun _K _s hs hn => S_ownR d (hs.own hp) (hs.guard hg) hdst hd hd6 (hn rfl)
theorem vd_appT {d e sz by_ N : Nat} (f : α → List SC) (hone : ∀ x, (f x).all SC.one = true) {l1 l2 l' : List α} {c : Cut} (he : appO by_ l1 (c.app l2) = some l') (h : appTArgs P need o = some (d, e, sz, by_, N, N, l1.map f, l2.map f, c)) (hg : guardOf ops o need = some true) (hd : dstOk n o = true) :
    VD P n ops o ⟨need, o.dst, .c (.slc sz (d + 2) l'.length (l'.map f)), some (d, .spare e sz l'.length), false, none⟩ :=
  fun _K _s hs _ => S_appT f hone he (hs.appT h) (hs.guard hg) hd
theorem vd_appR {d e sz by_ N m : Nat} (f : α → List SC) (hone : ∀ x, (f x).all SC.one = true) {l1 l2 l' : List α} {c : Cut} (he : appO by_ (l1.take m) (c.app l2) = some l') (h : appRArgs P need o = some (d, e, sz, by_, N, l1.map f, m, l2.map f, c)) (hg : guardOf ops o need = some true) (hd : dstOk n o = true) :
    VD P n ops o ⟨need, o.dst, .c (.own d), some (d, .row e sz l'.length (l'.map f)), false, some d⟩ :=
  fun _K _s hs _ => S_appR f hone he (hs.appR h) (hs.guard hg) hd
end

section
variable {P : Program} {K : Ctx} {n : Nat} {Q : Exit → St → Prop} {C : Cfg} {D : Dr} {α : Type}
theorem TS_upd {d : Nat} {r0 r : Res} {v : SV} (hp : ∀ os o, C.op = some (os, o) → UpdOp P o C.st d r0 r v) (hg : C.go1 n = true) (k : TS P K n (C.next ((C.st.setR d r).put C.dst v)) Q) : TS P K n C Q := by
  obtain ⟨os, o, ho, h1, h2, h3⟩ := go1_spec hg
  rw [h3] at k
  exact TS_stp ho (S_upd (hp os o ho) h1 h2) k
theorem TD_upd {d : Nat} {r0 r : Res} {v : SV} (hp : ∀ os o, D.op = some (os, o) → UpdOp P o D.need d r0 r v) (hg : D.go1 n = true) (k : TD P K n (D.push ⟨D.need, D.dst, v, some (d, r), false, none⟩) Q) : TD P K n D Q := by
  obtain ⟨os, o, ho, h1, h2, h3⟩ := go1D_spec hg
  rw [h3] at k
  exact push_ok ho (vd_upd (hp os o ho) h1 h2) rfl k
theorem TS_stA {k : IntKind} {d : Nat} (off m : Nat) {i v : Int} (l : List Int) {pre post : List SC} (hc : decide (0 ≤ i ∧ i < (m : Int)) = true) (hpre : decide (pre.length = off) = true) (h : C.with1 (stAArgs P k off m) = some (d, off + i.toNat, pre, arrS k m l, post, v)) (hg : C.go1 n = true)
    (kk : TS P K n (C.next ((C.st.setR d (.box (pre ++ arrS k m (setA m l i.toNat v) ++ post))).put C.dst (.tup []))) Q) : TS P K n C Q := by
  obtain ⟨os, o, ho, h1, h2, h3⟩ := go1_spec hg
  rw [h3] at kk
  exact TS_stp ho (S_stA hc hpre (with1_op h ho) h1) kk
theorem TD_stA {k : IntKind} {d : Nat} (off m : Nat) {i v : Int} (l : List Int) {pre post : List SC} (hc : decide (0 ≤ i ∧ i < (m : Int)) = true) (hpre : decide (pre.length = off) = true) (h : D.with1 (stAArgs P k off m) = some (d, off + i.toNat, pre, arrS k m l, post, v)) (hg : D.go1 n = true)
    (kk : TD P K n (D.push ⟨D.need, D.dst, .tup [], some (d, .box (pre ++ arrS k m (setA m l i.toNat v) ++ post)), false, none⟩) Q) : TD P K n D Q := by
  obtain ⟨os, o, ho, h1, h2, h3⟩ := go1D_spec hg
  rw [h3] at kk
  exact push_ok ho (vd_stA hc hpre (with1D_op h ho) h1) rfl kk
theorem TS_appR {d e sz by_ N m : Nat} (f : α → List SC) (hone : ∀ x, (f x).all SC.one = true) {l1 l2 l' : List α} {c : Cut} (he : appO by_ (l1.take m) (c.app l2) = some l') (h : C.with1 (appRArgs P) = some (d, e, sz, by_, N, l1.map f, m, l2.map f, c)) (hg : C.go1 n = true)
    (k : TS P K n (C.next (((C.st.mapC (SC.kill d)).setR d (.row e sz l'.length (l'.map f))).put C.dst (.c (.own d)))) Q) : TS P K n C Q := by
  obtain ⟨os, o, ho, h1, h2, h3⟩ := go1_spec hg
  rw [h3] at k
  exact TS_stp ho (S_appR f hone he (with1_op h ho) h1 h2) k
theorem TD_appR {d e sz by_ N m : Nat} (f : α → List SC) (hone : ∀ x, (f x).all SC.one = true) {l1 l2 l' : List α} {c : Cut} (he : appO by_ (l1.take m) (c.app l2) = some l') (h : D.with1 (appRArgs P) = some (d, e, sz, by_, N, l1.map f, m, l2.map f, c)) (hg : D.go1 n = true)
    (k : TD P K n (D.push ⟨D.need, D.dst, .c (.own d), some (d, .row e sz l'.length (l'.map f)), false, some d⟩) Q) : TD P K n D Q := by
  obtain ⟨os, o, ho, h1, h2, h3⟩ := go1D_spec hg
  rw [h3] at k
  exact push_ok ho (vd_appR f hone he (with1D_op h ho) h1 h2) rfl k
def Dr.okNew (n d : Nat) (D : Dr) : Bool := D.go1 n && (match D.dst with | some t => t == d | none => false) && decide (d < 1000000)
theorem okNewD_spec {d : Nat} (h : D.okNew n d = true) : ∃ os o, D.op = some (os, o) ∧ guardOf os o D.need = some true ∧ o.dst = some d ∧ d < n ∧ d < 1000000 := by
  simp only [Dr.okNew, Bool.and_eq_true, decide_eq_true_eq] at h
  obtain ⟨⟨h1, h2⟩, h3⟩ := h
  obtain ⟨os, o, ho, k1, k2, k3⟩ := go1D_spec h1
  rw [k3] at h2
  have hd : o.dst = some d := by
    cases hq : o.dst with
    | none => rw [hq] at h2; cases h2
    | some t => rw [hq] at h2; simp at h2; rw [h2]
  exact ⟨os, o, ho, k1, hd, dstOk_spec k2 d hd, h3⟩
theorem TD_ownT {e sz : Nat} {xs : List (List SC)} (d : Nat) (hp : ∀ os o, D.op = some (os, o) → OwnOp P o D.need e sz xs) (hg : D.okNew n d = true) (k : TD P K n (D.push ⟨D.need, some d, .c (.slc sz (d + 2) xs.length xs), some (d, .spare e sz xs.length), true, none⟩) Q) : TD P K n D Q := by
  obtain ⟨os, o, ho, h1, h2, h3, h4⟩ := okNewD_spec hg
  exact push_ok ho (vd_ownT d (hp os o ho) h1 h2 h3 h4) rfl k
theorem TD_ownR {e sz : Nat} {xs : List (List SC)} (d : Nat) (hp : ∀ os o, D.op = some (os, o) → OwnOp P o D.need e sz xs) (hg : D.okNew n d = true) (k : TD P K n (D.push ⟨D.need, some d, .c (.own d), some (d, .row e sz xs.length xs), true, none⟩) Q) : TD P K n D Q := by
  obtain ⟨os, o, ho, h1, h2, h3, h4⟩ := okNewD_spec hg
  exact push_ok ho (vd_ownR d (hp os o ho) h1 h2 h3 h4) rfl k
theorem TD_appT {d e sz by_ N : Nat} (f : α → List SC) (hone : ∀ x, (f x).all SC.one = true) {l1 l2 l' : List α} {c : Cut} (he : appO by_ l1 (c.app l2) = some l') (h : D.with1 (appTArgs P) = some (d, e, sz, by_, N, N, l1.map f, l2.map f, c)) (hg : D.go1 n = true)
    (k : TD P K n (D.push ⟨D.need, D.dst, .c (.slc sz (d + 2) l'.length (l'.map f)), some (d, .spare e sz l'.length), false, none⟩) Q) : TD P K n D Q := by
  obtain ⟨os, o, ho, h1, h2, h3⟩ := go1D_spec hg
  rw [h3] at k
  exact push_ok ho (vd_appT f hone he (with1D_op h ho) h1 h2) rfl k
theorem TS_idxR (d sz a : Nat) (f : α → List SC) (c : Cut) {l : List α} {i : Int} {x : α} (hx : idx (c.app l) i = some x) (h : C.with1 (idxRArgs P) = some (d, sz, l.map f, c, a, i)) (hg : C.go1 n = true) (kk : TS P K n (C.ret (.c (.elt d sz (a + i.toNat) 0))) Q) : TS P K n C Q :=
  TS_val _ hg (fun _os _o ho => grow_idxR hx (with1_op h ho)) kk
theorem TD_idxR (d sz a : Nat) (f : α → List SC) (c : Cut) {l : List α} {i : Int} {x : α} (hx : idx (c.app l) i = some x) (h : D.with1 (idxRArgs P) = some (d, sz, l.map f, c, a, i)) (hg : D.go1 n = true) (kk : TD P K n (D.ret (.c (.elt d sz (a + i.toNat) 0))) Q) : TD P K n D Q :=
  TD_val _ hg (fun _os _o ho => grow_idxR hx (with1D_op h ho)) kk
theorem TS_ldE (t : TypeId) (i off : Nat) (f : α → List SC) {l : List α} {x : α} {v : SV} (hx : l[i]? = some x) (hv : wrapT P t ((f x).drop off) = some v) (h : C.with1 (ldEArgs P) = some (t, l.map f, i, off)) (hg : C.go1 n = true) (kk : TS P K n (C.ret (v)) Q) : TS P K n C Q :=
  TS_val _ hg (fun _os _o ho => grow_ldE hx (with1_op h ho) hv) kk
theorem TD_ldE (t : TypeId) (i off : Nat) (f : α → List SC) {l : List α} {x : α} {v : SV} (hx : l[i]? = some x) (hv : wrapT P t ((f x).drop off) = some v) (h : D.with1 (ldEArgs P) = some (t, l.map f, i, off)) (hg : D.go1 n = true) (kk : TD P K n (D.ret (v)) Q) : TD P K n D Q :=
  TD_val _ hg (fun _os _o ho => grow_ldE hx (with1D_op h ho) hv) kk
theorem TD_slRow (d sz N : Nat) {a b : Int} (hc : decide (0 ≤ a ∧ a ≤ b ∧ b ≤ (N : Int)) = true) (ha : a = 0) (h : D.with1 (slRArgs P) = some (d, sz, N, a, b)) (hg : D.go1 n = true) (kk : TD P K n (D.ret (.c (.row d b.toNat))) Q) : TD P K n D Q :=
  TD_val _ hg (fun _os _o ho => grow_slRow (with1D_op h ho) hc ha) kk
theorem TD_slSub (d sz N : Nat) {a b : Int} (hc : decide (0 ≤ a ∧ a ≤ b ∧ b ≤ (N : Int)) = true) (h : D.with1 (slRArgs P) = some (d, sz, N, a, b)) (hg : D.go1 n = true) (kk : TD P K n (D.ret (.c (.sub d sz a.toNat (b.toNat - a.toNat)))) Q) : TD P K n D Q :=
  TD_val _ hg (fun _os _o ho => grow_slSub (with1D_op h ho) hc) kk
theorem TS_win (d off m : Nat) {a b : Int} (hc : decide (0 ≤ a ∧ a ≤ b ∧ b ≤ (m : Int)) = true) (hn : decide (m ≤ 140737488355328) = true) (h : C.with1 (winArgs P) = some (d, off, m, a, b)) (hg : C.go1 n = true) (kk : TS P K n (C.ret (.c (.win d (off + a.toNat) (b.toNat - a.toNat)))) Q) : TS P K n C Q :=
  TS_val _ hg (fun _os _o ho => grow_win (with1_op h ho) hc hn) kk
theorem TD_win (d off m : Nat) {a b : Int} (hc : decide (0 ≤ a ∧ a ≤ b ∧ b ≤ (m : Int)) = true) (hn : decide (m ≤ 140737488355328) = true) (h : D.with1 (winArgs P) = some (d, off, m, a, b)) (hg : D.go1 n = true) (kk : TD P K n (D.ret (.c (.win d (off + a.toNat) (b.toNat - a.toNat)))) Q) : TD P K n D Q :=
  TD_val _ hg (fun _os _o ho => grow_win (with1D_op h ho) hc hn) kk
theorem TS_idxA (d off m : Nat) {i : Int} (hc : decide (0 ≤ i ∧ i < (m : Int)) = true) (h : C.with1 (idxAArgs P) = some (d, off, m, i)) (hg : C.go1 n = true) (kk : TS P K n (C.ret (.c (.box d (off + i.toNat)))) Q) : TS P K n C Q :=
  TS_val _ hg (fun _os _o ho => grow_idxA (with1_op h ho) hc) kk
theorem TD_idxA (d off m : Nat) {i : Int} (hc : decide (0 ≤ i ∧ i < (m : Int)) = true) (h : D.with1 (idxAArgs P) = some (d, off, m, i)) (hg : D.go1 n = true) (kk : TD P K n (D.ret (.c (.box d (off + i.toNat)))) Q) : TD P K n D Q :=
  TD_val _ hg (fun _os _o ho => grow_idxA (with1D_op h ho) hc) kk
theorem TS_ldA (k : IntKind) (off m : Nat) {i : Int} (l : List Int) (hc : decide (0 ≤ i ∧ i < (m : Int)) = true) (h : C.with1 (ldAArgs P k off m) = some (off + i.toNat, arrS k m l)) (hg : C.go1 n = true) (kk : TS P K n (C.ret (int k (l.getD i.toNat 0))) Q) : TS P K n C Q :=
  TS_val _ hg (fun _os _o ho => grow_ldA hc (with1_op h ho)) kk
theorem TD_ldA (k : IntKind) (off m : Nat) {i : Int} (l : List Int) (hc : decide (0 ≤ i ∧ i < (m : Int)) = true) (h : D.with1 (ldAArgs P k off m) = some (off + i.toNat, arrS k m l)) (hg : D.go1 n = true) (kk : TD P K n (D.ret (int k (l.getD i.toNat 0))) Q) : TD P K n D Q :=
  TD_val _ hg (fun _os _o ho => grow_ldA hc (with1D_op h ho)) kk
theorem TS_stE (d e sz N i off : Nat) (f : α → List SC) {l : List α} {x : α} (x' : α) {ds : List SC} (hx : l[i]? = some x) (hx' : over (f x) off ds = f x') (hlen : (decide (off + ds.length ≤ (f x).length) && ds.all SC.one) = true) (h : C.with1 (stEArgs P) = some (d, e, sz, N, l.map f, i, off, ds)) (hg : C.go1 n = true) (kk : TS P K n (C.next ((C.st.setR d (.row e sz (l.set i x').length ((l.set i x').map f))).put C.dst (.tup []))) Q) : TS P K n C Q :=
  TS_upd (fun _os _o ho => upd_stE hx (with1_op h ho) hx' hlen) hg kk
theorem TD_stE (d e sz N i off : Nat) (f : α → List SC) {l : List α} {x : α} (x' : α) {ds : List SC} (hx : l[i]? = some x) (hx' : over (f x) off ds = f x') (hlen : (decide (off + ds.length ≤ (f x).length) && ds.all SC.one) = true) (h : D.with1 (stEArgs P) = some (d, e, sz, N, l.map f, i, off, ds)) (hg : D.go1 n = true) (kk : TD P K n (D.push ⟨D.need, D.dst, .tup [], some (d, .row e sz (l.set i x').length ((l.set i x').map f)), false, none⟩) Q) : TD P K n D Q :=
  TD_upd (fun _os _o ho => upd_stE hx (with1D_op h ho) hx' hlen) hg kk
theorem TS_cpR (d e sz N a : Nat) (f : α → List SC) (hone : ∀ x, (f x).all SC.one = true) {l l2 : List α} (c c' : Cut) (h : C.with1 (cpArgs P) = some (d, e, sz, N, l.map f, c, a, l2.map f, c')) (hg : C.go1 n = true) (kk : TS P K n (C.next ((C.st.setR d (.row e sz (cpL l a (c.app l).length (c'.app l2)).length ((cpL l a (c.app l).length (c'.app l2)).map f))).put C.dst (int .i64 (min (c'.app l2).length (c.app l).length : Nat)))) Q) : TS P K n C Q :=
  TS_upd (fun _os _o ho => upd_cpR hone (with1_op h ho)) hg kk
theorem TD_cpR (d e sz N a : Nat) (f : α → List SC) (hone : ∀ x, (f x).all SC.one = true) {l l2 : List α} (c c' : Cut) (h : D.with1 (cpArgs P) = some (d, e, sz, N, l.map f, c, a, l2.map f, c')) (hg : D.go1 n = true) (kk : TD P K n (D.push ⟨D.need, D.dst, int .i64 (min (c'.app l2).length (c.app l).length : Nat), some (d, .row e sz (cpL l a (c.app l).length (c'.app l2)).length ((cpL l a (c.app l).length (c'.app l2)).map f)), false, none⟩) Q) : TD P K n D Q :=
  TD_upd (fun _os _o ho => upd_cpR hone (with1D_op h ho)) hg kk
theorem TS_appNT (d : Nat) (e sz : Nat) {by_ : Nat} (f : α → List SC) (hone : ∀ x, (f x).all SC.one = true) {l2 l' : List α} (c : Cut) (he : appO by_ ([] : List α) (c.app l2) = some l') (h : C.with1 (appNArgs P) = some (e, sz, by_, l2.map f, c)) (hg : C.okNew n d = true) (kk : TS P K n (C.next ((C.st.setR d (.spare e sz (l'.length))).put (some d) (.c (.slc sz (d + 2) (l'.length) (l'.map f))))) Q) : TS P K n C Q := by
  refine TS_ownT (e := e) (sz := sz) (xs := l'.map f) d (fun os o ho => own_appN f hone he (with1_op h ho)) hg ?_
  rw [List.length_map]
  exact kk
theorem TS_appNR (d : Nat) (e sz : Nat) {by_ : Nat} (f : α → List SC) (hone : ∀ x, (f x).all SC.one = true) {l2 l' : List α} (c : Cut) (he : appO by_ ([] : List α) (c.app l2) = some l') (h : C.with1 (appNArgs P) = some (e, sz, by_, l2.map f, c)) (hg : C.okNew n d = true) (kk : TS P K n (C.next ((C.st.setR d (.row e sz (l'.length) (l'.map f))).put (some d) (.c (.own d)))) Q) : TS P K n C Q := by
  refine TS_ownR (e := e) (sz := sz) (xs := l'.map f) d (fun os o ho => own_appN f hone he (with1_op h ho)) hg ?_
  rw [List.length_map]
  exact kk
theorem TS_litNT (d : Nat) (e sz : Nat) (f : α → List SC) (ks : List Nat) (l : List α) (h : C.with1 (litRArgs P ks) = some (e, sz, l.map f)) (hg : C.okNew n d = true) (kk : TS P K n (C.next ((C.st.setR d (.spare e sz (l.length))).put (some d) (.c (.slc sz (d + 2) (l.length) (l.map f))))) Q) : TS P K n C Q := by
  refine TS_ownT (e := e) (sz := sz) (xs := l.map f) d (fun os o ho => own_litS (with1_op h ho)) hg ?_
  rw [List.length_map]
  exact kk
theorem TD_litNT (d : Nat) (e sz : Nat) (f : α → List SC) (ks : List Nat) (l : List α) (h : D.with1 (litRArgs P ks) = some (e, sz, l.map f)) (hg : D.okNew n d = true) (kk : TD P K n (D.push ⟨D.need, some d, .c (.slc sz (d + 2) (l.length) (l.map f)), some (d, .spare e sz (l.length)), true, none⟩) Q) : TD P K n D Q := by
  refine TD_ownT (e := e) (sz := sz) (xs := l.map f) d (fun os o ho => own_litS (with1D_op h ho)) hg ?_
  rw [List.length_map]
  exact kk
theorem TS_makeT (d : Nat) (e sz : Nat) {by_ : Nat} (f : α → List SC) (z0 : α) (ks : List Nat) {cs : List SC} {l c : Int} {m : Nat} (he : mkO by_ l c = some m) (hf : castL ks cs = f z0) (h : C.with1 (makeArgs P) = some (e, sz, by_, cs, l, c)) (hg : C.okNew n d = true) (kk : TS P K n (C.next ((C.st.setR d (.spare e sz ((List.replicate m z0).length))).put (some d) (.c (.slc sz (d + 2) ((List.replicate m z0).length) ((List.replicate m z0).map f))))) Q) : TS P K n C Q := by
  refine TS_ownT (e := e) (sz := sz) (xs := (List.replicate m z0).map f) d (fun os o ho => own_make f z0 ks he (with1_op h ho) hf) hg ?_
  rw [List.length_map]
  exact kk
theorem TD_makeT (d : Nat) (e sz : Nat) {by_ : Nat} (f : α → List SC) (z0 : α) (ks : List Nat) {cs : List SC} {l c : Int} {m : Nat} (he : mkO by_ l c = some m) (hf : castL ks cs = f z0) (h : D.with1 (makeArgs P) = some (e, sz, by_, cs, l, c)) (hg : D.okNew n d = true) (kk : TD P K n (D.push ⟨D.need, some d, .c (.slc sz (d + 2) ((List.replicate m z0).length) ((List.replicate m z0).map f)), some (d, .spare e sz ((List.replicate m z0).length)), true, none⟩) Q) : TD P K n D Q := by
  refine TD_ownT (e := e) (sz := sz) (xs := (List.replicate m z0).map f) d (fun os o ho => own_make f z0 ks he (with1D_op h ho) hf) hg ?_
  rw [List.length_map]
  exact kk
theorem TS_makeR (d : Nat) (e sz : Nat) {by_ : Nat} (f : α → List SC) (z0 : α) (ks : List Nat) {cs : List SC} {l c : Int} {m : Nat} (he : mkO by_ l c = some m) (hf : castL ks cs = f z0) (h : C.with1 (makeArgs P) = some (e, sz, by_, cs, l, c)) (hg : C.okNew n d = true) (kk : TS P K n (C.next ((C.st.setR d (.row e sz ((List.replicate m z0).length) ((List.replicate m z0).map f))).put (some d) (.c (.own d)))) Q) : TS P K n C Q := by
  refine TS_ownR (e := e) (sz := sz) (xs := (List.replicate m z0).map f) d (fun os o ho => own_make f z0 ks he (with1_op h ho) hf) hg ?_
  rw [List.length_map]
  exact kk
theorem TD_makeR (d : Nat) (e sz : Nat) {by_ : Nat} (f : α → List SC) (z0 : α) (ks : List Nat) {cs : List SC} {l c : Int} {m : Nat} (he : mkO by_ l c = some m) (hf : castL ks cs = f z0) (h : D.with1 (makeArgs P) = some (e, sz, by_, cs, l, c)) (hg : D.okNew n d = true) (kk : TD P K n (D.push ⟨D.need, some d, .c (.own d), some (d, .row e sz ((List.replicate m z0).length) ((List.replicate m z0).map f)), true, none⟩) Q) : TD P K n D Q := by
  refine TD_ownR (e := e) (sz := sz) (xs := (List.replicate m z0).map f) d (fun os o ho => own_make f z0 ks he (with1D_op h ho) hf) hg ?_
  rw [List.length_map]
  exact kk
def Cfg.calleeF (C : Cfg) (kss : List (List Nat)) : Option (FuncId × List SV) := match C.op with
  | some (_, o) => match calleeOf C.st o with
    | some (f, vs) => (frzL C.st kss vs).map fun A => (f, A)
    | none => none
  | none => none
def Dr.calleeF (D : Dr) (kss : List (List Nat)) : Option (FuncId × List SV) := match D.op with
  | some (_, o) => match calleeOf D.need o with
    | some (f, vs) => (frzL D.need kss vs).map fun A => (f, A)
    | none => none
  | none => none
theorem TS_callF {f : FuncId} {A : List SV} {r : SV} (kss : List (List Nat)) (hp : Con P f A [] r []) (hc : C.calleeF kss = some (f, A)) (hg : (C.go1 n && hasBody P f && r.every SC.isLit) = true) (k : TS P K n (C.ret r) Q) : TS P K n C Q := by
  simp only [Bool.and_eq_true] at hg
  refine TS_val r hg.1.1 (fun os o ho => ?_) k
  unfold Cfg.calleeF at hc
  rw [ho] at hc
  simp only at hc
  split at hc
  · rename_i f' vs h1
    obtain ⟨A', h2, h3⟩ := Option.map_eq_some_iff.1 hc
    cases h3
    exact grow_conF kss h1 hg.1.2 h2 hg.2 hp
  · cases hc
theorem TD_callF {f : FuncId} {A : List SV} {r : SV} (kss : List (List Nat)) (hp : Con P f A [] r []) (hc : D.calleeF kss = some (f, A)) (hg : (D.go1 n && hasBody P f && r.every SC.isLit) = true) (k : TD P K n (D.ret r) Q) : TD P K n D Q := by
  simp only [Bool.and_eq_true] at hg
  refine TD_val r hg.1.1 (fun os o ho => ?_) k
  unfold Dr.calleeF at hc
  rw [ho] at hc
  simp only at hc
  split at hc
  · rename_i f' vs h1
    obtain ⟨A', h2, h3⟩ := Option.map_eq_some_iff.1 hc
    cases h3
    exact grow_conF kss h1 hg.1.2 h2 hg.2 hp
  · cases hc
end
end
end Go.Proofs.YtplihihjfjmbfaaGreat
