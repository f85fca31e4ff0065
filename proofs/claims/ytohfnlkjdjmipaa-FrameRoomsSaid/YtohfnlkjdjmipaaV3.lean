/-
  SHADOWS, second make: the rules for the operations of a statement; variables made and written.
-/
import Derived.Test.YtohfnlkjdjmipaaV2
namespace Go.Proofs.Ytohfnlkjdjmipaa
open Go.RowKit

theorem Res.map_id (r : Res) : r.map (fun y => y) = r := by cases r <;> simp [Res.map]
theorem Res.every_true (r : Res) : r.every (fun _ => true) = true := by cases r <;> simp [Res.every]

section
variable {K : Ctx} {g g' : Env} {w w' : World} {h h' : Hp}
/-- one name is touched, nothing is said anew of the rest -/
theorem HG.step1 (k : HG K g w h) (d0 : Nat) (p : Nat → Bool) (he : ∀ d, d ≠ d0 → g'.pos d = g.pos d ∧ g'.tk d = g.tk d) (hp : ∀ d, p d = true → g'.pos d = g.pos d ∧ g'.tk d = g.tk d)
    (hl : ∀ d, d ≠ d0 → look h' d = look h d) (hok : ∀ d r, d ≠ d0 → look h d = some r → r.every (SC.say p) = true)
    (hk : Keep w (fun b o => ∃ r, look h d0 = some r ∧ Foot g d0 r b o) w')
    (hf : ∀ r b o, look h' d0 = some r → Foot g' d0 r b o → (∃ r0, look h d0 = some r0 ∧ Foot g d0 r0 b o) ∨ w.heap.size ≤ b)
    (hh : (rdOf K g h w).le (rdOf K g' h' w') → ∀ r, look h' d0 = some r → Holds (rdOf K g' h' w') g' w' d0 r)
    (hfix : 1000000 ≤ d0 → g'.pos d0 = g.pos d0 ∧ ∀ cs, look h' d0 = some (.box cs) → ∃ cs0, look h d0 = some (.box cs0))
    (hnew : ∀ r, look h' d0 = some r → r.isBox = false → ∀ b o, Foot g' d0 r b o → K.w0.heap.size ≤ b ∨ K.may b o) : HG K g' w' h' ∧ (rdOf K g h w).le (rdOf K g' h' w') := by
  have ht : ∀ d, (d == d0) = false → d ≠ d0 := fun d h => by simpa using h
  have ht' : ∀ d, (d == d0) = true → d = d0 := fun d h => by simpa using h
  have hk' : Keep w (fun b o => ∃ d r, (d == d0) = true ∧ look h d = some r ∧ Foot g d r b o) w' := hk.weak (fun b o ⟨r, h1, h2⟩ => ⟨d0, r, by simp, h1, h2⟩)
  have hf' : ∀ d r b o, (d == d0) = true → look h' d = some r → Foot g' d r b o → (∃ e r0, (e == d0) = true ∧ look h e = some r0 ∧ Foot g e r0 b o) ∨ w.heap.size ≤ b := by
    intro d r b o h1 h2 h3
    have := ht' d h1; subst this
    rcases hf r b o h2 h3 with ⟨r0, h4, h5⟩ | h4
    · exact .inl ⟨d, r0, by simp, h4, h5⟩
    · exact .inr h4
  have hle := rd_step (K := K) (g := g) (g' := g') (w := w) (w' := w') (h := h) (h' := h') k (· == d0) (fun d r h1 _ => he d (ht d h1)) (fun d r' h1 h2 => ⟨r', fun y => y, by rw [← hl d (ht d h1)]; exact h2, r'.map_id.symm⟩) hk' hf'
  refine ⟨k.step (g' := g') (w' := w') (h' := h') (· == d0) (fun y => y) (SC.say p) (fun d r h1 _ => he d (ht d h1)) (fun d r' h1 h2 => ?_) hk' hf' ?_ (fun u x hx hc => hc.env hle p hp hx) ?_ ?_ ?_, hle⟩
  · have h3 : look h d = some r' := by rw [← hl d (ht d h1)]; exact h2
    exact ⟨r', h3, r'.map_id.symm, hok d r' (ht d h1) h3⟩
  · intro d d' r r' b o h1 h2 hne
    exact absurd ((ht' d h1).trans (ht' d' h2).symm) hne
  · intro d r h1 h2
    have := ht' d h1; subst this
    exact hh hle r h2
  · intro d cs h1 h6 h2
    have := ht' d h1; subst this
    obtain ⟨q1, q2⟩ := hfix h6
    obtain ⟨cs0, h3⟩ := q2 cs h2
    rw [q1]
    exact k.fix d cs0 h6 h3
  · intro d r h1 h2
    have := ht' d h1; subst this
    exact hnew r h2
end

section
variable {K : Ctx} {g g' : Env} {w w' : World} {n : Nat} {a : Act} {s : St}
theorem HG.ext {h : Hp} (k : HG K g w h) (he : Ext w w') : HG K g w' h ∧ (rdOf K g h w).le (rdOf K g h w') := by
  have hk : Keep w (fun b o => ∃ d r, false = true ∧ look h d = some r ∧ Foot g d r b o) w' := (Keep.of_ext he).weak (fun _ _ x => x.elim)
  have hle := rd_step (K := K) (g := g) (g' := g) (w := w) (w' := w') (h := h) (h' := h) k (fun _ => false) (fun _ _ _ _ => ⟨rfl, rfl⟩) (fun d r' _ h2 => ⟨r', fun y => y, h2, r'.map_id.symm⟩) hk (fun _ _ _ _ h => by cases h)
  exact ⟨k.step (g' := g) (w' := w') (h' := h) (fun _ => false) (fun y => y) (fun _ => true) (fun _ _ _ _ => ⟨rfl, rfl⟩) (fun d r' _ h2 => ⟨r', h2, r'.map_id.symm, r'.every_true⟩) hk (fun _ _ _ _ h => by cases h) (fun _ _ _ _ _ _ h => by cases h) (fun u x _ hc => hc.mono hle) (fun _ _ h => by cases h) (fun _ _ h => by cases h) (fun _ _ h => by cases h), hle⟩
theorem HG.sees {h : Hp} (k : HG K g w h) : Sees w (rdOf K g h w') w' := by
  intro b o u hb hc
  refine rdOf_sees (g' := g) (h' := h) k (may := fun _ _ => False) (fun _ _ h => h.elim) b o u (.inl hb) ?_ hc
  rintro ⟨d, r, h1, h2⟩
  have := (k.holds d r h1).lt h2
  omega
theorem RG.ext (h : RG K g n a w s) (he : Ext w w') : RG K g n a w' s :=
  let ⟨k, hle⟩ := h.hg.ext he; ⟨h.defers, h.size, h.few, k, fun t v hv => let ⟨u, h1, h2⟩ := h.tmps t v hv; ⟨u, h1, h2.mono hle⟩⟩
theorem look_put {s : St} {d : Tmp} {v : SV} {t : Nat} : look (s.put (some d) v).tmps t = if d = t then some v else look s.tmps t := look_setL d v s.tmps t
theorem RG.put (h : RG K g n a w s) (d : Option Tmp) (hd : ∀ t, d = some t → t < n) {u : Value} {v : SV} (hv : VRel (rdOf K g s.hp w) g u v) : RG K g n (a.put d u) w (s.put d v) := by
  cases d with
  | none => exact h
  | some d =>
    refine ⟨h.defers, by simp [Act.put, h.size], h.few, h.hg, fun t x hx => ?_⟩
    have hd2 : d < 2000000 := Nat.lt_of_lt_of_le (hd d rfl) h.few
    rw [look_put] at hx
    simp only [Act.put, slotAt]
    by_cases ht : d = t
    · subst ht
      rw [if_pos rfl] at hx
      cases hx
      exact ⟨u, by rw [if_pos hd2]; simp [h.size, hd d rfl], hv⟩
    · rw [if_neg ht] at hx
      obtain ⟨z, h1, h2⟩ := h.tmps t x hx
      refine ⟨z, ?_, h2⟩
      simp only [slotAt] at h1
      split at h1
      · rename_i h2; rw [if_pos h2]; simp [ht, h1]
      · rename_i h2; rw [if_neg h2]; exact h1
/-- the same state in another world -/
theorem RG.move (h : RG K g n a w s) {h' : Hp} (k : HG K g' w' h') (hle : (rdOf K g s.hp w).le (rdOf K g' h' w')) (p : Nat → Bool) (hp : ∀ d, p d = true → g'.pos d = g.pos d ∧ g'.tk d = g.tk d) (T : List (Nat × SV)) (hT : ∀ t v, look T t = some v → look s.tmps t = some v ∧ v.every (SC.say p) = true) : RG K g' n a w' { tmps := T, hp := h' } :=
  ⟨h.defers, h.size, h.few, k, fun t v hv => let ⟨q1, q2⟩ := hT t v hv; let ⟨u, h1, h2⟩ := h.tmps t v q1; ⟨u, h1, h2.imp1 (fun _v _x hx hc => hc.env hle p hp hx) q2⟩⟩
end

def dstOk (n : Nat) (o : Oper) : Bool := match o.dst with
  | some d => decide (d < n)
  | none => true
theorem dstOk_spec {n : Nat} {o : Oper} (h : dstOk n o = true) : ∀ t, o.dst = some t → t < n := by
  intro t ht
  simpa [dstOk, ht] using h

/-! ### guards -/
def guardOf (ops : Array Oper) (o : Oper) (s : St) : Option Bool := match o.guard with
  | none => some true
  | some (j, want) => match ops[j]? with
    | some oj => match oj.dst with
      | some t => match (if t < 2000000 then look s.tmps t else none) with
        | some (.c (.lit (.bool b))) => some (b == want)
        | some (.tup []) => some false
        | _ => none
      | none => none
    | none => none
theorem guard_ok {ops : Array Oper} {o : Oper} {s : St} {b : Bool} {a : Act} (h : guardOf ops o s = some b) (ht0 : ∀ t v, t < 2000000 → look s.tmps t = some v → ∃ u rd g, a.tmps[t]? = some u ∧ VRel rd g u v) : Region.wanted o (yielded ops a.tmps) = b := by
  have ht : ∀ t v, (if t < 2000000 then look s.tmps t else none) = some v → ∃ u rd g, a.tmps[t]? = some u ∧ VRel rd g u v := by
    intro t v h
    split at h
    · rename_i h2; exact ht0 t v h2 h
    · cases h
  unfold guardOf at h
  unfold Region.wanted
  cases hg : o.guard with
  | none => rw [hg] at h; simpa using h
  | some p =>
    obtain ⟨j, want⟩ := p
    rw [hg] at h
    simp only at h ⊢
    split at h
    · rename_i oj hoj
      split at h
      · rename_i t hdst
        split at h
        · rename_i b' hl
          obtain ⟨u, rd, g, h1, h2⟩ := ht t _ hl
          have := rel_lit h2
          subst this
          simp only [yielded, hoj, Option.bind_some, hdst, h1]
          simpa using h
        · rename_i hl
          obtain ⟨u, rd, g, h1, h2⟩ := ht t _ hl
          simp only [VRel] at h2
          obtain ⟨vs, rfl, _⟩ := h2
          simp only [yielded, hoj, Option.bind_some, hdst, h1]
          simpa using h
        · cases h
      · cases h
    · cases h

/-! ### the judgements -/
def Post (K : Ctx) (n : Nat) (Q : Exit → St → Prop) (e : Exit) (a : Act) (w : World) : Prop := ∃ s, R K n a w s ∧ Q e s
def T (P : Program) (K : Ctx) (n : Nat) (c : Code) (s : St) (Q : Exit → St → Prop) : Prop := ∀ a w, R K n a w s → c.wp P (Post K n Q) a w
def TL (P : Program) (K : Ctx) (n : Nat) (ops : Array Oper) (l : List Oper) (s : St) (Q : Exit → St → Prop) : Prop := ∀ a w, R K n a w s → wpList P ops (Post K n Q) l a w
/-- one operation leads from a state to a state -/
def Stp (P : Program) (K : Ctx) (n : Nat) (ops : Array Oper) (o : Oper) (s s' : St) : Prop :=
  ∀ a w, R K n a w s → ∀ (K' : Act → World → Prop) (Q : Exit → Act → World → Prop), (∀ a' w', R K n a' w' s' → K' a' w') → if Region.wanted o (yielded ops a.tmps) then o.wp P a w K' Q else K' (a.put o.dst undef) w

section
variable {P : Program} {K : Ctx} {n : Nat} {ops : Array Oper} {l : List Oper} {o : Oper} {s s' : St} {Q : Exit → St → Prop}
theorem TL_nil (h : Q .normal s) : TL P K n ops [] s Q := fun _ _ r => ⟨s, r, h⟩
theorem TL_stp (h : Stp P K n ops o s s') (ht : TL P K n ops l s' Q) : TL P K n ops (o :: l) s Q := by
  intro a w r
  refine wpList_step fun K' hK => ?_
  exact h a w r K' _ (fun a' w' r' => hK a' w' (ht a' w' r'))
theorem Stp_mk (hgd : guardOf ops o s = some true) (h : ∀ g a w, RG K g n a w s → ∀ (K' : Act → World → Prop) (Q : Exit → Act → World → Prop), (∀ a' w', R K n a' w' s' → K' a' w') → o.wp P a w K' Q) : Stp P K n ops o s s' := by
  intro a w ⟨g, r⟩ K' Q hK
  have hw := guard_ok (a := a) hgd (fun t v ht hv => let ⟨u, h1, h2⟩ := r.view.tmps t v ht hv; ⟨u, _, _, h1, h2⟩)
  rw [if_pos hw]
  exact h g a w r K' Q hK
theorem S_skip (hgd : guardOf ops o s = some false) (hd : dstOk n o = true) : Stp P K n ops o s (s.put o.dst (.tup [])) := by
  intro a w ⟨g, r⟩ K' Q hK
  have hw := guard_ok (a := a) hgd (fun t v ht hv => let ⟨u, h1, h2⟩ := r.view.tmps t v ht hv; ⟨u, _, _, h1, h2⟩)
  rw [if_neg (by rw [hw]; simp)]
  exact hK _ _ ⟨g, r.put o.dst (dstOk_spec hd) ⟨#[], rfl, rfl, fun j x hx => by simp at hx⟩⟩
theorem mSafe_mono {p q : Value → World → Prop} {a : Act} {w : World} (h : mSafe P p o a w) (k : ∀ v w', Ext w w' → p v w' → q v w') : mSafe P q o a w := by
  unfold mSafe mUpon at *
  split at h
  · exact ⟨h.1, k _ _ h.1 h.2⟩
  · exact ⟨h.1, k _ _ h.1 h.2⟩
  · exact h.mono fun e w' ⟨u, h2, h3, h4⟩ => ⟨u, h2, h3, k _ _ h3 h4⟩
  · exact h
def GrowOp (P : Program) (o : Oper) (s : St) (v : SV) : Prop :=
  ∀ g rd a w, OView g rd a w s o → mSafe P (fun u w' => ∀ rd', rd.le rd' → Sees w rd' w' → VRel rd' g u v) o a w
theorem PureOp.grow {v : SV} (h : PureOp P o s v) : GrowOp P o s v := by
  intro g rd a w hv
  obtain ⟨u, h1, h2⟩ := h g rd a w hv
  unfold mSafe
  rw [h1]
  exact ⟨Ext.refl w, fun rd' hle _ => h2.mono hle⟩
theorem S_grow (v : SV) (hgd : guardOf ops o s = some true) (hd : dstOk n o = true) (hp : GrowOp P o s v) : Stp P K n ops o s (s.put o.dst v) := by
  refine Stp_mk hgd fun g a w r K' Q hK => ?_
  refine (hp g _ a w (r.view.o o)).wp fun u w' he hu => ?_
  exact hK _ _ ⟨g, (r.ext he).put o.dst (dstOk_spec hd) (hu _ (r.hg.ext he).2 r.hg.sees)⟩
end

/-! ### new variables -/
def St.noname (s : St) (d : Nat) (ex : Option Nat) : Bool := (look s.hp d).isNone && s.tmps.all (fun p => some p.1 == ex || p.2.every (SC.say (· != d))) && s.hp.all fun p => p.2.every (SC.say (· != d))
theorem noname_spec {s : St} {d : Nat} {ex : Option Nat} (hf : s.noname d ex = true) : look s.hp d = none ∧ (∀ t v, look s.tmps t = some v → ex ≠ some t → v.every (SC.say (· != d)) = true) ∧ ∀ e r, look s.hp e = some r → r.every (SC.say (· != d)) = true := by
  simp only [St.noname, Bool.and_eq_true, Option.isNone_iff_eq_none] at hf
  obtain ⟨⟨hf1, hf2⟩, hf3⟩ := hf
  refine ⟨hf1, fun t v hl ht => ?_, fun e cs hl => List.all_eq_true.1 hf3 _ (look_mem hl)⟩
  have h2 := List.all_eq_true.1 hf2 _ (look_mem hl)
  simp only [Bool.or_eq_true, beq_iff_eq] at h2
  rcases h2 with h2 | h2
  · exact absurd h2.symm ht
  · exact h2
def Env.setPos (g : Env) (d : Nat) (p : Nat × Nat) : Env := { g with pos := fun e => if e = d then p else g.pos e }
def Env.setTk (g : Env) (d : Nat) (v : Value × Value) (p : Nat × Nat) : Env := { pos := fun e => if e = d then p else g.pos e, tk := fun e => if e = d then v else g.tk e }
def NoName (s : St) (d : Nat) (ex : Option Nat) : Prop := look s.hp d = none ∧ (∀ t v, look s.tmps t = some v → ex ≠ some t → v.every (SC.say (· != d)) = true) ∧ ∀ e r, look s.hp e = some r → r.every (SC.say (· != d)) = true

section
variable {P : Program} {K : Ctx} {n : Nat} {ops : Array Oper} {l : List Oper} {o : Oper} {s s' : St} {Q : Exit → St → Prop} {g : Env} {a : Act} {w : World}
/-- a new resource, made by one operation -/
theorem RG.add (h : RG K g n a w s) {d : Nat} (hd6 : d < 1000000) (hf : NoName s d none) {g' : Env} {w' : World} {r : Res} (he : ∀ e, e ≠ d → g'.pos e = g.pos e ∧ g'.tk e = g.tk e) (hx : Ext w w') (hfoot : ∀ b o, Foot g' d r b o → w.heap.size ≤ b)
    (hh : (rdOf K g s.hp w).le (rdOf K g' (setL d r s.hp) w') → Holds (rdOf K g' (setL d r s.hp) w') g' w' d r) : RG K g' n a w' (s.setR d r) ∧ (rdOf K g s.hp w).le (rdOf K g' (setL d r s.hp) w') := by
  obtain ⟨k, hle⟩ := h.hg.step1 (g' := g') (w' := w') (h' := setL d r s.hp) d (· != d) he (fun e he' => he e (by simpa using he')) (fun e he' => by rw [look_setL, if_neg (Ne.symm he')]) (fun e r' _ h2 => hf.2.2 e r' h2) ((Keep.of_ext hx).weak (fun _ _ x => x.elim))
    (fun r' b o h1 h2 => by rw [look_setL, if_pos rfl] at h1; cases h1; exact .inr (hfoot b o h2)) (fun hle r' h1 => by rw [look_setL, if_pos rfl] at h1; cases h1; exact hh hle) (fun h6 => by omega)
    (fun r' h1 _ b o h2 => by rw [look_setL, if_pos rfl] at h1; cases h1; exact .inl (Nat.le_trans h.hg.keep.size (hfoot b o h2)))
  exact ⟨h.move k hle (· != d) (fun e he' => he e (by simpa using he')) s.tmps (fun t v hv => ⟨hv, hf.2.1 t v hv (by simp)⟩), hle⟩

theorem RG.forget (h : RG K g n a w s) (t : Tmp) : RG K g n a w { s with tmps := drop1 s.tmps t } :=
  ⟨h.defers, h.size, h.few, h.hg, fun u v hv => h.tmps u v (by
    rw [look_drop1] at hv
    split at hv
    · cases hv
    · exact hv)⟩
def St.newBox (s : St) (d : Nat) (cs : List SC) : St := (St.setR s d (.box cs)).put (some d) (.c (.box d 0))
theorem NoName.drop {d : Nat} {t : Tmp} (hf : NoName s d (some t)) : NoName { s with tmps := drop1 s.tmps t } d none := by
  refine ⟨hf.1, fun u v hv _ => ?_, hf.2.2⟩
  simp only [look_drop1] at hv
  split at hv
  · cases hv
  · rename_i hne
    exact hf.2.1 u v hv (fun h => hne (Option.some.inj h).symm)
theorem put_drop (s : St) (t : Tmp) (v : SV) (k : Nat) : look (St.put { s with tmps := drop1 s.tmps t } (some t) v).tmps k = look (s.put (some t) v).tmps k := by
  rw [look_put, look_put]
  split
  · rfl
  · rename_i hne
    simp only [look_drop1]
    rw [if_neg (Ne.symm hne)]
theorem RG.sim {s s' : St} (h : RG K g n a w s) (h1 : ∀ k, look s'.tmps k = look s.tmps k) (h2 : s'.hp = s.hp) : RG K g n a w s' := by
  obtain ⟨T, H⟩ := s'
  simp only at h2
  subst h2
  exact ⟨h.defers, h.size, h.few, h.hg, fun t v hv => h.tmps t v (by rw [← h1]; exact hv)⟩

theorem RG.newBox (h : RG K g n a w s) {d : Nat} (hd : d < n) (hd6 : d < 1000000) (hf : NoName s d (some d)) {vs : Array Value} {cs : List SC} (e : TypeId) (hv : CsRel (rdOf K g s.hp w) g vs cs) (hall : cs.all (SC.say (· != d)) = true) :
    R K n (a.put (some d) (.pointer (some ⟨w.heap.size, 0, none⟩))) (w.alloc (.cells vs e)) (s.newBox d cs) := by
  have h0 := h.forget d
  have he : ∀ e, e ≠ d → (g.setPos d (w.heap.size, 0)).pos e = g.pos e ∧ (g.setPos d (w.heap.size, 0)).tk e = g.tk e := fun e he => by simp [Env.setPos, he]
  have hpos : (g.setPos d (w.heap.size, 0)).pos d = (w.heap.size, 0) := by simp [Env.setPos]
  obtain ⟨r1, hle⟩ := h0.add (g' := g.setPos d (w.heap.size, 0)) (w' := w.alloc (.cells vs e)) (r := .box cs) hd6 hf.drop he (Ext.alloc w _) (fun b o hb => by
      obtain ⟨rfl, _⟩ := hb; rw [hpos]; exact Nat.le_refl _) (fun hle => by
      intro j y hy
      obtain ⟨u, h1, h2⟩ := hv.2 j y hy
      rw [hpos]
      refine ⟨u, ?_, ?_, h2.env hle (· != d) (fun e' he' => he e' (by simpa using he')) (List.all_eq_true.1 hall y (List.mem_of_getElem? hy))⟩
      · simp only [Nat.zero_add]
        rw [World.cell?_alloc_at _ _ _ _ rfl]
        exact h1
      · simp only [World.frozen?, heap_alloc_new]
        simp)
  have r2 := r1.put (some d) (fun t ht => by cases ht; exact hd) (u := .pointer (some ⟨w.heap.size, 0, none⟩)) (v := .c (.box d 0)) (by simp only [VRel, CRel, CRel0, hpos])
  exact ⟨_, r2.sim (fun k => (put_drop (s.setR d (.box cs)) d _ k).symm) rfl⟩

theorem S_box {t : TypeId} {x : Operand} {v : SV} {cs : List SC} (d : Nat) (ho : o.op = .box t x) (hdst : o.dst = some d) (hgd : guardOf ops o s = some true) (hd : d < n) (hd6 : d < 1000000) (hx : opd s x = some v) (hc : cellsOf v = some cs) (hf : NoName s d (some d)) (hall : cs.all (SC.say (· != d)) = true) : Stp P K n ops o s (s.newBox d cs) := by
  refine Stp_mk hgd fun g a w r K' Q hK => ?_
  have h2 := r.newBox hd hd6 hf t (rel_cells (r.view.opd hx) hc) hall
  unfold Oper.wp
  simp only [execOp, ho, Instr.box, newVar, newRow, newObj, Sem.run_bind, Sem.run_pure, Sem.run, Result.andThen_ok, Oper.upon, hdst]
  exact hK _ _ h2
theorem S_alloc {t : TypeId} {z : Value} (d : Nat) (cs : List SC) (ho : o.op = .alloc t) (hdst : o.dst = some d) (hgd : guardOf ops o s = some true) (hd : d < n) (hd6 : d < 1000000) (hz : (P.info? t).bind (·.zero) = some z) (hc : z.cells.toList.map SC.lit = cs) (hf : NoName s d (some d)) : Stp P K n ops o s (s.newBox d cs) := by
  refine Stp_mk hgd fun g a w r K' Q hK => ?_
  obtain ⟨i, hi, hz⟩ := Option.bind_eq_some_iff.1 hz
  have h1 : CsRel (rdOf K g s.hp w) g z.cells cs := by
    subst hc
    refine ⟨by simp, fun j y hy => ?_⟩
    rw [List.getElem?_map] at hy
    obtain ⟨u, hu, rfl⟩ := Option.map_eq_some_iff.1 hy
    exact ⟨u, by simpa using hu, .lit u⟩
  have h2 := r.newBox hd hd6 hf t h1 (by subst hc; simp [SC.say, SC.say0])
  unfold Oper.wp
  simp only [execOp, ho, Instr.alloc, zeroValue, typeInfo, program, hi, hz, newVar, newRow, newObj, Sem.run_bind, Sem.run_pure, Sem.run, Result.andThen_ok, Oper.upon, hdst]
  exact hK _ _ h2
end

/-! ### a variable is written -/
def over (cs : List SC) (off : Nat) (ds : List SC) : List SC := cs.take off ++ ds ++ cs.drop (off + ds.length)
theorem over_length {cs ds : List SC} {off : Nat} (h : off + ds.length ≤ cs.length) : (over cs off ds).length = cs.length := by
  simp [over]; omega
theorem over_get {cs ds : List SC} {off : Nat} (h : off + ds.length ≤ cs.length) (j : Nat) : (over cs off ds)[j]? = if off ≤ j ∧ j < off + ds.length then ds[j - off]? else cs[j]? := by
  unfold over
  rw [List.append_assoc, List.getElem?_append]
  simp only [List.length_take, Nat.min_eq_left (by omega : off ≤ cs.length)]
  by_cases h1 : j < off
  · rw [if_pos h1, List.getElem?_take, if_pos h1, if_neg (by omega)]
  · rw [if_neg h1, List.getElem?_append]
    by_cases h2 : j - off < ds.length
    · rw [if_pos h2, if_pos (by omega)]
    · rw [if_neg h2, List.getElem?_drop, if_neg (by omega)]
      congr 1
      omega

section
variable {P : Program} {K : Ctx} {n : Nat} {ops : Array Oper} {l : List Oper} {o : Oper} {s s' : St} {Q : Exit → St → Prop} {g : Env} {a : Act} {w w' : World}
/-- a resource is written in place: nothing moves -/
theorem RG.upd (h : RG K g n a w s) {d : Nat} {r0 r : Res} (hl : look s.hp d = some r0) (hfoot : ∀ b o, Foot g d r b o → Foot g d r0 b o) (hk : Keep w (Foot g d r0) w')
    (hkind : ∀ cs, r = .box cs → ∃ cs0, r0 = .box cs0) (hkind2 : r.isBox = false → r0.isBox = false) (hh : (rdOf K g s.hp w).le (rdOf K g (setL d r s.hp) w') → Holds (rdOf K g (setL d r s.hp) w') g w' d r) : RG K g n a w' (s.setR d r) ∧ (rdOf K g s.hp w).le (rdOf K g (setL d r s.hp) w') := by
  obtain ⟨k, hle⟩ := h.hg.step1 (g' := g) (w' := w') (h' := setL d r s.hp) d (fun _ => true) (fun _ _ => ⟨rfl, rfl⟩) (fun _ _ => ⟨rfl, rfl⟩) (fun e he' => by rw [look_setL, if_neg (Ne.symm he')]) (fun e r' _ _ => by cases r' <;> simp [Res.every, SC.say_true]) (hk.weak (fun b o x => ⟨r0, hl, x⟩))
    (fun r' b o h1 h2 => by rw [look_setL, if_pos rfl] at h1; cases h1; exact .inl ⟨r0, hl, hfoot b o h2⟩) (fun hle r' h1 => by rw [look_setL, if_pos rfl] at h1; cases h1; exact hh hle)
    (fun _ => ⟨rfl, fun cs h1 => by rw [look_setL, if_pos rfl] at h1; cases h1; obtain ⟨cs0, rfl⟩ := hkind cs rfl; exact ⟨cs0, hl⟩⟩)
    (fun r' h1 hb b o h2 => by rw [look_setL, if_pos rfl] at h1; cases h1; exact h.hg.new d r0 hl (hkind2 hb) b o (hfoot b o h2))
  exact ⟨h.move k hle (fun _ => true) (fun _ _ => ⟨rfl, rfl⟩) s.tmps (fun t v hv => ⟨hv, by cases v <;> simp [SV.every, SC.say_true]⟩), hle⟩

/-- a part of a variable has been written, by whomever -/
theorem RG.updBox (h : RG K g n a w s) {d off : Nat} {cs ds : List SC} (hl : look s.hp d = some (.box cs)) (hsz : off + ds.length ≤ cs.length) (hk : Keep w (fun b o => b = (g.pos d).1 ∧ (g.pos d).2 + off ≤ o ∧ o < (g.pos d).2 + off + ds.length) w')
    (hb : (rdOf K g s.hp w).le (rdOf K g (setL d (.box (over cs off ds)) s.hp) w') → boxAt (rdOf K g (setL d (.box (over cs off ds)) s.hp) w') g w' ((g.pos d).1, (g.pos d).2 + off) ds) : RG K g n a w' (s.setR d (.box (over cs off ds))) ∧ (rdOf K g s.hp w).le (rdOf K g (setL d (.box (over cs off ds)) s.hp) w') := by
  refine h.upd (r := .box (over cs off ds)) hl (fun b o x => ?_) (hk.weak (fun b o x => ⟨x.1, by omega, by omega⟩)) (fun _ _ => ⟨cs, rfl⟩) (fun q => by cases q) (fun hle => ?_)
  · obtain ⟨h1, h2, h3⟩ := x
    rw [over_length hsz] at h3
    exact ⟨h1, h2, h3⟩
  · intro j y hy
    rw [over_get hsz] at hy
    by_cases hj : off ≤ j ∧ j < off + ds.length
    · rw [if_pos hj] at hy
      obtain ⟨u, h1, h2, h3⟩ := hb hle _ y hy
      simp only [show (g.pos d).2 + off + (j - off) = (g.pos d).2 + j by omega] at h1 h2
      exact ⟨u, h1, h2, h3⟩
    · rw [if_neg hj] at hy
      obtain ⟨u, h1, h2, h3⟩ := h.hg.holds d _ hl j y hy
      exact ⟨u, hk.cell h1 (fun k => by omega), by rw [hk.frozen (World.block_lt_of_cell? w _ h1)]; exact h2, h3.mono hle⟩

theorem RG.store (h : RG K g n a w s) {d off : Nat} {cs ds : List SC} (hl : look s.hp d = some (.box cs)) (hsz : off + ds.length ≤ cs.length) {vs : Array Value} (hv : CsRel (rdOf K g s.hp w) g vs ds) :
    RG K g n a (w.setCells (g.pos d).1 ((g.pos d).2 + off) vs.toList) (s.setR d (.box (over cs off ds))) := by
  have hlen : vs.toList.length = ds.length := by simpa using hv.1
  have hk := Keep.setCells (g.pos d).1 vs.toList ((g.pos d).2 + off) w
  rw [hlen] at hk
  refine (h.updBox hl hsz hk (fun hle j y hy => ?_)).1
  obtain ⟨u, h1, h2⟩ := hv.2 j y hy
  have hj := (List.getElem?_eq_some_iff.1 hy).1
  obtain ⟨u0, k1, k2, _⟩ := h.hg.holds d _ hl (off + j) _ (List.getElem?_eq_getElem (by omega))
  rw [← Nat.add_assoc] at k1 k2
  refine ⟨u, ?_, by rw [hk.frozen (World.block_lt_of_cell? w _ k1)]; exact k2, h2.mono hle⟩
  simp only
  have h1' : vs.toList[j]? = some u := by simpa using h1
  have hthere : ∀ i, i < vs.toList.length → (w.cell? ⟨(g.pos d).1, (g.pos d).2 + off + i, none⟩).isSome = true := fun i hi => by
    obtain ⟨u1, q1, _⟩ := h.hg.holds d _ hl (off + i) _ (List.getElem?_eq_getElem (by omega))
    rw [← Nat.add_assoc] at q1
    rw [q1]; rfl
  rw [World.cell?_setCells_in (g.pos d).1 vs.toList ((g.pos d).2 + off) w hthere j (by omega)]
  rw [List.getElem?_eq_getElem (by omega)] at h1'
  exact h1'

def SC.one : SC → Bool
  | .lit (.agg _) => false
  | .lit (.tuple _) => false
  | .any => false
  | _ => true
theorem one_cell {rd : Rd} {g : Env} {u : Value} {x : SC} (h : CRel rd g u x) (h1 : x.one = true) : u.oneCell' = true := by
  cases x <;> simp only [CRel, CRel0] at h
  case lit v => cases h; cases u <;> simp_all [SC.one, Value.oneCell']
  case slc => cases h.1 <;> rfl
  case ref => cases h; rfl
  case box => subst h; rfl
  case own => obtain ⟨h1, a, n, c, h2⟩ := h; rw [h1, h2]; rfl
  case row => obtain ⟨a, n, c, h1, h2, _⟩ := h; rw [h2]; rfl
  case win => obtain ⟨a, c, h1, _⟩ := h; rw [h1]; rfl
  case sub => obtain ⟨_, _, _, _, _, _, _, h2, _⟩ := h; rw [h2]; rfl
  case elt => obtain ⟨_, _, _, _, h2⟩ := h; rw [h2]; rfl
  case any => cases h1
  case clo => obtain ⟨a, h1, _⟩ := h; rw [h1]; rfl

theorem S_store {t : TypeId} {p x : Operand} {v : SV} (d off : Nat) (cs ds : List SC) (ho : o.op = .store t p x) (hdst : o.dst = none) (hgd : guardOf ops o s = some true)
    (hp : opd s p = some (.c (.box d off))) (hx : opd s x = some v) (hc : cellsOf v = some ds) (hl : s.lookB d = some cs) (hi : (P.info? t).map (·.size) = some ds.length) (h1 : ds.all SC.one = true) (hsz' : off + ds.length ≤ cs.length) : Stp P K n ops o s (s.setR d (.box (over cs off ds))) := by
  refine Stp_mk hgd fun g a w r K' Q hK => ?_
  have hv := rel_cells (r.view.opd hx) hc
  have hpp := r.view.opd hp
  simp only [VRel, CRel, CRel0] at hpp
  have hl' := lookB_some hl
  obtain ⟨i, hi', hsize⟩ := Option.map_eq_some_iff.1 hi
  have hlen : (a.eval x).cells.toList.length = ds.length := by simpa using hv.1
  have hst := run_storeCells_cells (P := P) (g.pos d).1 ((g.pos d).2 + off) (a.eval x).cells.toList 0 w
    (fun j hj => by
      obtain ⟨u, k1, _⟩ := r.hg.holds d _ hl' (off + j) cs[off + j] (List.getElem?_eq_getElem (by omega))
      rw [← Nat.add_assoc] at k1
      rw [Nat.add_zero, k1]; rfl)
    (fun j hj => by
      obtain ⟨u, _, k2, _⟩ := r.hg.holds d _ hl' (off + j) cs[off + j] (List.getElem?_eq_getElem (by omega))
      rw [← Nat.add_assoc] at k2
      rw [Nat.add_zero]; exact k2)
    (fun u hu => by
      obtain ⟨j, hj, rfl⟩ := List.getElem_of_mem hu
      obtain ⟨u', k1, k2⟩ := hv.2 j ds[j] (List.getElem?_eq_getElem (by omega))
      have : u' = (a.eval x).cells.toList[j] := by
        have : (a.eval x).cells.toList[j]? = some u' := by simpa using k1
        rw [List.getElem?_eq_getElem hj] at this
        exact (Option.some.inj this).symm
      rw [← this]
      exact one_cell k2 (List.all_eq_true.1 h1 _ (List.getElem_mem _)))
  rw [Nat.add_zero] at hst
  unfold Oper.wp
  have hsz2 : (a.eval x).cells.size = i.size := by rw [hsize]; exact hv.1
  simp only [execOp, ho, Instr.storeAt, Instr.sureAddr, hpp, storeVar, sizeOf, typeInfo, program, hi', hsz2, ne_eq, not_true_eq_false, if_false, Sem.run_bind, Sem.run_pure, Sem.run, Result.andThen_ok, hst, Oper.upon, hdst]
  exact hK _ _ ⟨g, r.store hl' hsz' hv⟩
end
end Go.Proofs.Ytohfnlkjdjmipaa
