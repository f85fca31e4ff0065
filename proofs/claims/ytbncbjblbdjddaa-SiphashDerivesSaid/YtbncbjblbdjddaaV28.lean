/-
  Loops run round by round; calls that return one new row, within statements whose order is drawn.
-/
import Derived.Test.YtbncbjblbdjddaaV27
namespace Go.Proofs.Ytbncbjblbdjddaa
open Go.RowKit

section
variable {P : Program} {K : Ctx} {n : Nat} {Q : Exit → St → Prop} {C C0 : Cfg} {D : Dr}
/-- at most m rounds from here -/
def Unr (P : Program) (K : Ctx) (n : Nat) (c : Code) (Q : Exit → St → Prop) : Nat → St → Prop
  | 0, _ => False
  | m + 1, s => T P K n c s (thenQ (Unr P K n c Q m) Q)
theorem T_unr {c : Code} {s : St} (m : Nat) (h : Unr P K n c Q m s) : T P K n (.loop c) s Q := by
  refine T_loop (ι := Nat) (fun m s => Unr P K n c Q m s) (fun m => m) m h (fun m s hm => ?_)
  cases m with
  | zero => exact hm.elim
  | succ m =>
    refine T_mono hm (fun e s' q => ?_)
    cases e with
    | normal => exact ⟨m, q, Nat.lt_succ_self m⟩
    | exit i => exact q
    | goto i => exact q
    | ret => exact q
    | panic i => exact q
    | outgrown => exact q
def Cfg.loopC : Cfg → Code
  | .mk (.code (.loop c) :: _) .normal _ => c
  | _ => .skip
def unrQ (P : Program) (K : Ctx) (n : Nat) (C0 : Cfg) (m : Nat) (Q : Exit → St → Prop) : Exit → St → Prop := thenQ (Unr P K n C0.loopC (QS P K n C0.rest Q) m) (QS P K n C0.rest Q)
theorem TS_unr (m : Nat) (hC : C.isLoop = true) (k : TS P K n (C.body C.st) (unrQ P K n C m Q)) : TS P K n C Q := by
  unfold Cfg.isLoop at hC
  split at hC
  · exact T_unr (m + 1) k
  · cases hC
theorem TS_unrN {m : Nat} (he : C.ended = true) (hC : C0.isLoop = true) (k : TS P K n (C0.body C.st) (unrQ P K n C0 m Q)) : TS P K n C (unrQ P K n C0 (m + 1) Q) := by
  unfold Cfg.ended at he
  split at he
  · unfold Cfg.isLoop at hC
    split at hC
    · exact k
    · cases hC
  · cases he
theorem TS_unrX {m : Nat} (he : C.abn = true) (k : TS P K n (C.out C0.rest) Q) : TS P K n C (unrQ P K n C0 m Q) := by
  unfold Cfg.abn at he
  split at he
  · exact k
  · exact k
  · cases he
theorem vd_conX {ops : Array Oper} {o : Oper} {need : St} {f : FuncId} {vs A : List SV} {d e : Nat} {r : SV} {res : Res} (kss : List (List Nat)) (hgd : guardOf ops o need = some true) (hdst : o.dst = some d) (hdn : d < n) (hd6 : d < 1000000) (he6 : e < 1000000) (hc : calleeOf need o = some (f, vs)) (hb : hasBody P f = true) (hargs : castArgs kss vs = A) (hcl : A.all (fun v => v.every SC.closed) = true) (hres : res.isBox = false) (hr : r.every (SC.say (okN [(d, e)])) = true) (hp : Con P f A [] r [(e, res)]) :
    VD P n ops o ⟨need, some d, r.map (SC.ren (backL [(d, e)])), some (d, res), true⟩ := by
  intro K s hs hn
  have hnm : NM d s := hn rfl
  obtain ⟨m1, m2, m3⟩ := hnm
  have hback : backL [(d, e)] e = d := by simp [backL]
  have hnone : ∀ x, (look [(d, e)] x).isNone = (x != d) := by
    intro x
    rw [look_cons]
    by_cases hx : d = x
    · subst hx; simp
    · rw [if_neg hx]
      simp [look]
      exact fun h => hx h.symm
  have hfun : (fun x => (look [(d, e)] x).isNone) = fun x => x != d := funext hnone
  have hev : ∀ p, res.every p = true := by
    intro p
    cases res with
    | box cs => cases hres
    | row _ _ _ _ => rfl
    | spare _ _ _ => rfl
  have := S_conL (P := P) (K := K) (n := n) (ops := ops) (o := o) (s := s) (h := []) (h' := [(e, res)]) (r := r) kss [(d, e)] none (hs.guard hgd) (by simp [dstOk, hdst, hdn]) (hs.callee hc) hb hargs hcl rfl
    (by
      intro p hpm
      rw [List.mem_singleton.1 hpm]
      exact ⟨⟨⟨⟨⟨by simp [look_cons], by simpa using hd6⟩, by simpa using hback⟩, by simp [look_cons]⟩, by simp [m1]⟩, by simpa using he6⟩)
    (by
      intro t v hv
      rw [hdst, hfun]
      by_cases ht : t = d
      · subst ht; simp
      · rw [m2 t v hv (by intro h; cases h; exact ht rfl), Bool.or_true])
    (by
      intro d' r hr
      rw [hfun]
      exact m3 d' r hr)
    hr
    (by
      intro q hq
      rw [List.mem_singleton.1 hq]
      simp [hev])
    hp
  refine this.sim ?_
  have hmap : ∀ m, res.map m = res := by
    intro m
    cases res with
    | box cs => cases hres
    | row _ _ _ _ => rfl
    | spare _ _ _ => rfl
  have e1 : s.after [(e, res)] r [(d, e)] none o.dst = St.put { s with hp := (d, res) :: s.hp } (some d) (r.map (SC.ren (backL [(d, e)]))) := by
    rw [hdst]
    simp [St.after, newsHp, hpAfter, look_cons, hmap]
  rw [e1]
  refine ⟨fun k => rfl, fun k => ?_⟩
  simp only [DD.app, put_hp, St.setR]
  rw [look_cons, look_setL]
theorem TD_conX {f : FuncId} {A : List SV} {d e : Nat} {r : SV} {res : Res} (kss : List (List Nat)) (hp : Con P f A [] r [(e, res)]) (hc : D.callee kss = some (f, A)) (hg : (D.okNew n d && hasBody P f && decide (e < 1000000) && A.all (fun v => v.every SC.closed) && !res.isBox && r.every (SC.say (okN [(d, e)]))) = true)
    (k : TD P K n (D.push ⟨D.need, some d, r.map (SC.ren (backL [(d, e)])), some (d, res), true⟩) Q) : TD P K n D Q := by
  simp only [Bool.and_eq_true, decide_eq_true_eq, Bool.not_eq_true'] at hg
  obtain ⟨⟨⟨⟨⟨g1, g2⟩, g3⟩, g4⟩, g5⟩, g6⟩ := hg
  obtain ⟨os, o, ho, h1, h2, h3, h4⟩ := okNewD_spec g1
  obtain ⟨vs, h5, h6⟩ := calleeD_op hc ho
  exact push_ok ho (vd_conX kss h1 h2 h3 h4 g3 h5 g2 h6 g4 g5 g6 hp) rfl k
end
end Go.Proofs.Ytbncbjblbdjddaa
