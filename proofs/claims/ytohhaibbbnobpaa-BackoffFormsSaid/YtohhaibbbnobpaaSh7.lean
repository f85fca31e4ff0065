/-
  SHADOWS: statements whose order is drawn.
-/
import Derived.Test.YtohhaibbbnobpaaSh6
namespace Go.Proofs.Ytohhaibbbnobpaa
open Go.RowKit

inductive Head (P : Program) (n : Nat) (ops : Array Oper) : List Oper → St → List SV → St → Prop
  | nil (s : St) : Head P n ops [] s [] s
  | op {o : Oper} {l : List Oper} {s s' : St} {vs : List SV} (v : SV) (hg : guardOf ops o s = some true) (hd : dstOk n o = true) (hp : GrowOp P o s v) (h : Head P n ops l (s.put o.dst v) vs s') : Head P n ops (o :: l) s (v :: vs) s'
  | skip {o : Oper} {l : List Oper} {s s' : St} {vs : List SV} (hg : guardOf ops o s = some false) (hd : dstOk n o = true) (h : Head P n ops l (s.put o.dst (.tup [])) vs s') : Head P n ops (o :: l) s (.tup [] :: vs) s'

theorem put_hp (s : St) (d : Option Tmp) (v : SV) : (s.put d v).hp = s.hp := by cases d <;> rfl
theorem Head.hp {P : Program} {n : Nat} {ops : Array Oper} {l : List Oper} {s s' : St} {vs : List SV} (h : Head P n ops l s vs s') : s'.hp = s.hp := by
  induction h with
  | nil => rfl
  | op v _ _ _ _ ih => rw [ih, put_hp]
  | skip _ _ _ ih => rw [ih, put_hp]

theorem mSafe_mono {P : Program} {o : Oper} {a : Act} {w : World} {p q : Value → World → Prop} (h : mSafe P p o a w) (k : ∀ v w', Ext w w' → p v w' → q v w') : mSafe P q o a w := by
  unfold mSafe at *
  generalize (execOp a.eval o).run P w = r at *
  cases r with
  | halt x w' => exact h
  | ok n w' =>
    cases n <;> simp only [mUpon] at h ⊢
    case value v => exact ⟨h.1, k _ _ h.1 h.2⟩
    case skip => exact ⟨h.1, k _ _ h.1 h.2⟩
    case enter f args => exact h.mono fun e w'' ⟨v, he, h1, h2⟩ => ⟨v, he, h1, k _ _ h1 h2⟩

section
variable {P : Program} {K : Ctx} {n : Nat} {ops : Array Oper} {g : Env} {w : World}

structure HInv (K : Ctx) (g : Env) (w : World) (n : Nat) (h : Hp) (s : St) (a : Act) (F : Facts) (J : World → Prop) : Prop where
  defers : a.defers = []
  size : a.tmps.size = n
  hF : ∀ t v, look s.tmps t = some v → ∃ u, a.tmps[t]? = some u ∧ ∀ w', Ext w w' → F t w' → VRel (rdOf K g h w') g u v
  hJF : ∀ w', J w' → ∀ t, F t w'
  hJ : ∃ w1, Ext w w1 ∧ J w1

theorem HInv.guard {h : Hp} {s : St} {a : Act} {F : Facts} {J : World → Prop} (i : HInv K g w n h s a F J) {o : Oper} {b : Bool} (hg : guardOf ops o s = some b) : Region.wanted o (yielded ops a.tmps) = b := by
  obtain ⟨w1, e1, j1⟩ := i.hJ
  exact guard_ok hg (fun t v hv => let ⟨u, h1, h2⟩ := i.hF t v hv; ⟨u, _, _, h1, h2 w1 e1 (i.hJF w1 j1 t)⟩)

theorem head_wpM {L : Act → (World → Prop) → Prop} {h : Hp} (hg : HG K g w h) {l : List Oper} {s s' : St} {vs : List SV} (hd : Head P n ops l s vs s') : s.hp = h → ∀ (k : Nat) (psi : Nat → Option (Value → World → Prop)) (a : Act) (F : Facts) (J : World → Prop),
    (∀ i v, vs[i]? = some v → psi (k + i) = some fun u w' => VRel (rdOf K g h w') g u v) → HInv K g w n h s a F J → (∀ a' F' J', HInv K g w n h s' a' F' J' → L a' J') → wpM P ops (Ext w) psi L l k a F J := by
  induction hd with
  | nil s => intro _ k psi a F J _ inv hL; unfold wpM; exact hL a F J inv
  | @op o l s s' vs v hgd hdst hp _ ih =>
    intro hhp k psi a F J hpsi inv hL
    have hw := inv.guard (ops := ops) hgd
    have hps : psi k = some fun u w' => VRel (rdOf K g h w') g u v := hpsi 0 v rfl
    unfold wpM
    rw [if_pos hw]
    simp only [hps, mPost]
    refine ⟨fun w1 e1 hf => ?_, fun u hu => ?_⟩
    · have hg1 := hg.ext e1
      have ov : OView g (rdOf K g h w1) a w1 s o := by
        refine ⟨fun x y hx hy => ?_, rdOf_le g h hg1.keep, fun d cs hdd j z hz => ?_⟩
        · cases x with
          | tmp t =>
            obtain ⟨u, h1, h2⟩ := inv.hF t y hy
            simp only [Act.eval, Array.getD_eq_getD_getElem?, h1, Option.getD_some]
            refine h2 w1 e1 (hf t ?_)
            unfold Oper.looksAt
            refine List.mem_append_left _ (List.mem_filterMap.2 ⟨.tmp t, hx, rfl⟩)
          | const c => exact constSV_rel hy
          | func f => simp only [opd] at hy; cases hy; exact IRel.lit _
          | global g => simp [opd] at hy
        · rw [hhp] at hdd
          obtain ⟨u, h1, _, h3⟩ := hg1.box d cs hdd j z hz
          exact ⟨u, h1, h3⟩
      exact mSafe_mono (hp g _ a w1 ov) (fun u w2 e2 hu => hu _ (rdOf_ext e2) hg1.sees)
    · refine ih (by rw [put_hp]; exact hhp) (k + 1) psi _ _ _ (fun i y hy => by rw [Nat.add_right_comm]; exact hpsi (i + 1) y hy) ?_ hL
      refine ⟨?_, ?_, ?_, ?_, ?_⟩
      · cases ho : o.dst <;> simp [Act.put, inv.defers]
      · cases ho : o.dst <;> simp [Act.put, inv.size]
      · intro t y hy
        cases hdd : o.dst with
        | none =>
          rw [hdd] at hy
          obtain ⟨z, h1, h2⟩ := inv.hF t y hy
          exact ⟨z, h1, h2⟩
        | some d =>
          rw [hdd, look_put] at hy
          simp only [Act.put, Facts.upd]
          by_cases ht : d = t
          · subst ht
            rw [if_pos rfl] at hy
            cases hy
            refine ⟨u, by simp [Array.getElem?_setIfInBounds, inv.size, dstOk_spec hdst d hdd], fun w' _ hf => ?_⟩
            rw [if_pos rfl] at hf
            exact hf.1
          · rw [if_neg ht] at hy
            obtain ⟨z, h1, h2⟩ := inv.hF t y hy
            refine ⟨z, by simp [Array.getElem?_setIfInBounds, ht, h1], fun w' e' hf => ?_⟩
            rw [if_neg (Ne.symm ht)] at hf
            exact h2 w' e' hf
      · rintro w' ⟨j1, p1⟩ t
        simp only [Facts.upd]
        split
        · split
          · exact ⟨p1, fun d _ => inv.hJF w' j1 d⟩
          · exact inv.hJF w' j1 t
        · exact inv.hJF w' j1 t
      · obtain ⟨w1, e1, j1, p1⟩ := hu
        exact ⟨w1, e1, j1, p1⟩
  | @skip o l s s' vs hgd hdst _ ih =>
    intro hhp k psi a F J hpsi inv hL
    have hw := inv.guard (ops := ops) hgd
    unfold wpM
    rw [if_neg (by rw [hw]; simp)]
    refine ih (by rw [put_hp]; exact hhp) (k + 1) psi _ _ _ (fun i y hy => by rw [Nat.add_right_comm]; exact hpsi (i + 1) y hy) ?_ hL
    refine ⟨?_, ?_, ?_, ?_, inv.hJ⟩
    · cases ho : o.dst <;> simp [Act.put, inv.defers]
    · cases ho : o.dst <;> simp [Act.put, inv.size]
    · intro t y hy
      cases hdd : o.dst with
      | none =>
        rw [hdd] at hy
        obtain ⟨z, h1, h2⟩ := inv.hF t y hy
        exact ⟨z, h1, h2⟩
      | some d =>
        rw [hdd, look_put] at hy
        simp only [Act.put, Facts.upd]
        by_cases ht : d = t
        · subst ht
          rw [if_pos rfl] at hy
          cases hy
          exact ⟨undef, by simp [Array.getElem?_setIfInBounds, inv.size, dstOk_spec hdst d hdd], fun w' _ _ => ⟨#[], rfl, rfl, fun j x hx => by simp at hx⟩⟩
        · rw [if_neg ht] at hy
          obtain ⟨z, h1, h2⟩ := inv.hF t y hy
          refine ⟨z, by simp [Array.getElem?_setIfInBounds, ht, h1], fun w' e' hf => ?_⟩
          rw [if_neg (Ne.symm ht)] at hf
          exact h2 w' e' hf
    · intro w' j1 t
      simp only [Facts.upd]
      split
      · split
        · trivial
        · exact inv.hJF w' j1 t
      · exact inv.hJF w' j1 t

def psiOf (K : Ctx) (g : Env) (h : Hp) (vs : List SV) : Nat → Option (Value → World → Prop) := fun i => match vs[i]? with
  | some v => some fun u w' => VRel (rdOf K g h w') g u v
  | none => none
theorem psiOf_steady (K : Ctx) (g : Env) (h : Hp) (vs : List SV) (w : World) : ∀ i p, psiOf K g h vs i = some p → ∀ v, Steady (Ext w) (p v) := by
  intro i p hp v
  unfold psiOf at hp
  split at hp
  · cases hp
    exact fun w1 w2 _ e h1 => h1.mono (rdOf_ext e)
  · cases hp
theorem HInv.start {a : Act} {s : St} (r : RG K g n a w s) : HInv K g w n s.hp s a noFacts (fun _ => True) :=
  ⟨r.defers, r.size, fun t v hv => let ⟨u, h1, h2⟩ := r.tmps t v hv; ⟨u, h1, fun w' e _ => h2.mono (rdOf_ext e)⟩, fun _ _ _ => trivial, w, Ext.refl w, trivial⟩
theorem HInv.stop {a : Act} {s s' : St} {F : Facts} {J : World → Prop} (hg : HG K g w s.hp) (i : HInv K g w n s.hp s' a F J) (hhp : s'.hp = s.hp) {w' : World} (e : Ext w w') (j : J w') : RG K g n a w' s' :=
  ⟨i.defers, i.size, by rw [hhp]; exact hg.ext e, fun t v hv => by rw [hhp]; exact let ⟨u, h1, h2⟩ := i.hF t v hv; ⟨u, h1, h2 w' e (i.hJF w' j t)⟩⟩

theorem T_draw {Q : Exit → St → Prop} {s : St} {l : List Oper} {id : Nat} (k : Nat) (vs : List SV) (s' : St) (hm : P.follows .mixedOrders = true) (hB : Region.lexTailB .any l.toArray k = true) (hd : Head P n l.toArray (l.take k) s vs s') (ht : TL P K n l.toArray (l.drop k) s' Q) : T P K n (.region id l.toArray true) s Q := by
  intro a w ⟨g, r⟩
  refine wp_region_mono_tail k (psiOf K g s.hp vs) hm hB (psiOf_steady K g s.hp vs w) ?_
  refine head_wpM r.hg hd rfl 0 _ a noFacts _ (fun i v hv => by rw [Nat.zero_add]; unfold psiOf; rw [hv]) (HInv.start r) ?_
  intro a' F' J' inv w' e' j'
  exact ht a' w' ⟨g, inv.stop r.hg hd.hp e' j'⟩
theorem T_drawAll {Q : Exit → St → Prop} {s : St} {l : List Oper} {id : Nat} (vs : List SV) (s' : St) (hm : P.follows .mixedOrders = true) (hB : Region.lexB .any l.toArray = true) (hd : Head P n l.toArray l s vs s') (ht : Q .normal s') : T P K n (.region id l.toArray true) s Q := by
  intro a w ⟨g, r⟩
  refine wp_region_mono (psiOf K g s.hp vs) hm hB (psiOf_steady K g s.hp vs w) ?_
  refine head_wpM r.hg hd rfl 0 _ a noFacts _ (fun i v hv => by rw [Nat.zero_add]; unfold psiOf; rw [hv]) (HInv.start r) ?_
  intro a' F' J' inv w' e' j'
  exact ⟨s', ⟨g, inv.stop r.hg hd.hp e' j'⟩, ht⟩
end
end Go.Proofs.Ytohhaibbbnobpaa
