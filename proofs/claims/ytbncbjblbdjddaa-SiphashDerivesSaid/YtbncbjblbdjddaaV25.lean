/-
  Calls that return a new row, within statements whose order is drawn; nil within a struct as an empty row.
-/
import Derived.Test.YtbncbjblbdjddaaV24
namespace Go.Proofs.Ytbncbjblbdjddaa
open Go.RowKit

section
variable {P : Program} {K : Ctx} {n : Nat} {Q : Exit → St → Prop} {C : Cfg} {D : Dr}
theorem vd_conT {ops : Array Oper} {o : Oper} {need : St} {f : FuncId} {vs A : List SV} {d e el sz N : Nat} {xs : List (List SC)} (kss : List (List Nat)) (hgd : guardOf ops o need = some true) (hdst : o.dst = some d) (hdn : d < n) (hd6 : d < 1000000) (he6 : e < 1000000) (hc : calleeOf need o = some (f, vs)) (hb : hasBody P f = true) (hargs : castArgs kss vs = A) (hcl : A.all (fun v => v.every SC.closed) = true) (hp : Con P f A [] (.c (.slc sz (e + 2) N xs)) [(e, .spare el sz N)]) :
    VD P n ops o ⟨need, some d, .c (.slc sz (d + 2) N xs), some (d, .spare el sz N), true⟩ := by
  intro K s hs hn
  have hnm : NM d s := hn rfl
  obtain ⟨m1, m2, m3⟩ := hnm
  have hback : backL [(d, e)] e = d := by simp [backL]
  have hnone : ∀ x, (look [(d, e)] x).isNone = (x != d) := by
    intro x
    rw [look_cons]
    by_cases hx : d = x
    · subst hx; simp
    · rw [if_neg hx]
      simp [look]
      exact fun h => hx h.symm
  have hfun : (fun x => (look [(d, e)] x).isNone) = fun x => x != d := funext hnone
  have hokn : okN [(d, e)] e = true := by simp [okN, hback, look_cons]
  have := S_conL (P := P) (K := K) (n := n) (ops := ops) (o := o) (s := s) (h := []) (h' := [(e, .spare el sz N)]) (r := .c (.slc sz (e + 2) N xs)) kss [(d, e)] none (hs.guard hgd) (by simp [dstOk, hdst, hdn]) (hs.callee hc) hb hargs hcl rfl
    (by
      intro p hpm
      rw [List.mem_singleton.1 hpm]
      exact ⟨⟨⟨⟨⟨by simp [look_cons], by simpa using hd6⟩, by simpa using hback⟩, by simp [look_cons]⟩, by simp [m1]⟩, by simpa using he6⟩)
    (by
      intro t v hv
      rw [hdst, hfun]
      by_cases ht : t = d
      · subst ht; simp
      · rw [m2 t v hv (by intro h; cases h; exact ht rfl), Bool.or_true])
    (by
      intro d' r hr
      rw [hfun]
      exact m3 d' r hr)
    (by simp [SV.every, SC.say, SC.say0, hokn])
    (by
      intro q hq
      rw [List.mem_singleton.1 hq]
      simp [Res.every])
    hp
  refine this.sim ?_
  have e1 : s.after [(e, .spare el sz N)] (.c (.slc sz (e + 2) N xs)) [(d, e)] none o.dst = St.put { s with hp := (d, .spare el sz N) :: s.hp } (some d) (.c (.slc sz (d + 2) N xs)) := by
    rw [hdst]
    simp [St.after, newsHp, hpAfter, look_cons, Res.map, SV.map, SC.ren, SC.ren0, hback]
  rw [e1]
  refine ⟨fun k => rfl, fun k => ?_⟩
  simp only [DD.app, put_hp, St.setR]
  rw [look_cons, look_setL]
theorem TD_conT {f : FuncId} {A : List SV} {d e el sz N : Nat} {xs : List (List SC)} (kss : List (List Nat)) (hp : Con P f A [] (.c (.slc sz (e + 2) N xs)) [(e, .spare el sz N)]) (hc : D.callee kss = some (f, A)) (hg : (D.okNew n d && hasBody P f && decide (e < 1000000) && A.all (fun v => v.every SC.closed)) = true)
    (k : TD P K n (D.push ⟨D.need, some d, .c (.slc sz (d + 2) N xs), some (d, .spare el sz N), true⟩) Q) : TD P K n D Q := by
  simp only [Bool.and_eq_true, decide_eq_true_eq] at hg
  obtain ⟨⟨⟨g1, g2⟩, g3⟩, g4⟩ := hg
  obtain ⟨os, o, ho, h1, h2, h3, h4⟩ := okNewD_spec g1
  obtain ⟨vs, h5, h6⟩ := calleeD_op hc ho
  exact push_ok ho (vd_conT kss h1 h2 h3 h4 g3 h5 g2 h6 g4 hp) rfl k
end
section
variable {P : Program} {K : Ctx} {n : Nat} {Q : Exit → St → Prop} {C : Cfg} {g : Env} {a : Act} {w : World} {s : St}
/-- a nil within a struct in a slot, as an empty row -/
def nilA (s : St) (t j d e sz : Nat) : Option St := match look s.tmps t with
  | some (.agg cs) => match cs[j]? with
    | some (.lit (.slice none 0 0)) => if decide (d < 1000000) && s.noname d none then some ((s.setR d (.spare e sz 0)).put (some t) (.agg (cs.set j (.slc sz (d + 2) 0 [])))) else none
    | _ => none
  | _ => none
theorem R.nilA {s' : St} (h : R K n a w s) {t j d e sz : Nat} (hs : nilA s t j d e sz = some s') : R K n a w s' := by
  obtain ⟨g, h⟩ := h
  unfold Go.Proofs.Ytbncbjblbdjddaa.nilA at hs
  split at hs
  · rename_i cs hl
    split at hs
    · rename_i hj
      split at hs
      · rename_i hq
        simp only [Bool.and_eq_true, decide_eq_true_eq] at hq
        cases hs
        have h1 := h.nilTok d e sz hq.1 (noname_spec hq.2)
        refine ⟨_, h1.recast (t := t) hl (fun u hu => ?_)⟩
        obtain ⟨vs, k1, k2, k3⟩ := hu
        refine ⟨vs, k1, by simpa using k2, fun i y hy => ?_⟩
        rw [List.getElem?_set] at hy
        split at hy
        · rename_i hij
          subst hij
          split at hy
          · cases hy
            obtain ⟨v, q1, q2⟩ := k3 j _ hj
            have : v = .slice none 0 0 := by cases q2; rfl
            subst this
            exact ⟨_, q1, .nil sz none 0 (by simp [maxLen]), by simp [Tag, Env.setTk, vlen]⟩
          · cases hy
        · exact k3 i y hy
      · cases hs
    · cases hs
  · cases hs
theorem TS_nilA (t j d e sz : Nat) (he : C.pre = true) (k : TS P K n (C.st2 (nilA C.st t j d e sz)) Q) : TS P K n C Q := TS_st2 (fun _ _ _ hs r => r.nilA hs) he k
end
end Go.Proofs.Ytbncbjblbdjddaa
