/-
  A contract that hands out its new rows, and the same contract without them.
-/
import Derived.Test.YtbncbjblbdjddaaV22
namespace Go.Proofs.Ytbncbjblbdjddaa
open Go.RowKit

def castS (kss : List (List Nat)) : SV → SV
  | .tup vs => .tup ((List.range vs.length).map fun i => castF (kss.getD i []) (vs.getD i (false, [])))
  | x => castV (kss.getD 0 []) x
theorem castS_rel {rd : Rd} {g : Env} {v : Value} {x : SV} (kss : List (List Nat)) (h : VRel rd g v x) : VRel rd g v (castS kss x) := by
  cases x with
  | c x => exact castV_rel _ h
  | agg cs => exact castV_rel _ h
  | tup xs =>
    obtain ⟨vs, h1, h2, h3⟩ := h
    refine ⟨vs, h1, by simpa using h2, fun j x hx => ?_⟩
    have hj : j < xs.length := by have := (List.getElem?_eq_some_iff.1 hx).1; simpa using this
    rw [List.getElem?_map, List.getElem?_range hj] at hx
    cases hx
    obtain ⟨u, h4, h5⟩ := h3 j xs[j] (List.getElem?_eq_getElem hj)
    refine ⟨u, h4, castF_rel _ ?_⟩
    simpa [List.getD_eq_getElem?_getD, List.getElem?_eq_getElem hj] using h5
theorem con_drop {P : Program} {f : FuncId} {A : List SV} {h h' h2 : Hp} {r r2 : SV} (kss : List (List Nat)) (spec : List (Nat × List Nat)) (hp : Con P f A h r h') (hr : castS kss r = r2) (hh : pickH h' spec = some h2) (hd : (h2.all fun p => p.2.isBox) = true) : Con P f A h r2 h2 := by
  intro rd g w us a1 a2 a3 a4 a5 a6
  refine (hp rd g w us a1 a2 a3 a4 a5 a6).mono ?_
  rintro e w' ⟨u, g', rfl, hk, hpos, hin, hdis, hnew, hres⟩
  subst hr
  have hl : ∀ d x, look h2 d = some x → ∃ x0 ks, look h' d = some x0 ∧ x = castR ks x0 := pickH_look spec hh
  have hft : ∀ b o, InFoot g' h2 b o → InFoot g' h' b o := by
    rintro b o ⟨d, x, q1, q2⟩
    obtain ⟨x0, ks, q3, rfl⟩ := hl d x q1
    rw [castR_foot] at q2
    exact ⟨d, x0, q3, q2⟩
  refine ⟨u, g', rfl, hk, ?_, fun b o q => hin b o (hft b o q), ?_, ?_, ?_⟩
  · intro d cs hd6 hx
    obtain ⟨x0, ks, q3, q4⟩ := hl d _ hx
    cases x0 with
    | box c => exact hpos d c hd6 q3
    | row => cases q4
    | spare => cases q4
  · intro d d' r1 r2 b o hne q1 q2 q3 q4
    obtain ⟨x0, ks, q5, rfl⟩ := hl d _ q1
    obtain ⟨x1, ks1, q6, rfl⟩ := hl d' _ q2
    rw [castR_foot] at q3 q4
    exact hdis d d' x0 x1 b o hne q5 q6 q3 q4
  · intro d x q1 q2
    have := List.all_eq_true.1 hd _ (look_mem q1)
    rw [this] at q2
    cases q2
  · intro rd' hle hs
    obtain ⟨k1, k2⟩ := hres rd' hle (fun b o u q1 q2 q3 => hs b o u q1 (fun q => q2 (hft b o q)) q3)
    refine ⟨castS_rel kss k1, fun d x hx => ?_⟩
    obtain ⟨x0, ks, q5, rfl⟩ := hl d _ hx
    exact castR_holds ks (k2 d x0 q5)
section
variable {P : Program} {K : Ctx} {n : Nat} {Q : Exit → St → Prop} {C : Cfg} {g : Env} {a : Act} {w : World} {s : St}
/-- a nil in a slot as an own row -/
theorem RG.nilRow (h : RG K g n a w s) (d e sz : Nat) (hd6 : d < 1000000) (hf : NoName s d none) : RG K (g.setTk d (.slice none 0 0, undef) (0, 0)) n a w (s.setR d (.row e sz 0 [])) :=
  (h.add (g' := g.setTk d (.slice none 0 0, undef) (0, 0)) (w' := w) (r := .row e sz 0 []) hd6 hf (fun e he => by simp [Env.setTk, he]) (Ext.refl w) (fun b o hb => by
      simp [Foot, Env.setTk, Value.ownBlock] at hb) (fun hle => ⟨[], by simpa [Env.setTk] using World.ownsRow_nil w 0 e sz, rfl, by simp, by simp⟩)).1
def nilR (s : St) (t d e sz : Nat) : Option St := match look s.tmps t with
  | some (.c (.lit (.slice none 0 0))) => if decide (d < 1000000) && s.noname d none then some ((s.setR d (.row e sz 0 [])).put (some t) (.c (.own d))) else none
  | _ => none
theorem R.nilR {s' : St} (h : R K n a w s) {t d e sz : Nat} (hs : nilR s t d e sz = some s') : R K n a w s' := by
  obtain ⟨g, h⟩ := h
  unfold Go.Proofs.Ytbncbjblbdjddaa.nilR at hs
  split at hs
  · rename_i hl
    split at hs
    · rename_i hq
      simp only [Bool.and_eq_true, decide_eq_true_eq] at hq
      cases hs
      have h1 := h.nilRow d e sz hq.1 (noname_spec hq.2)
      refine ⟨_, h1.recast (t := t) hl (fun u hu => ?_)⟩
      rw [rel_lit hu]
      exact ⟨by simp [Env.setTk], none, 0, 0, by simp [Env.setTk]⟩
    · cases hs
  · cases hs
theorem TS_nilR (t d e sz : Nat) (he : C.pre = true) (k : TS P K n (C.st2 (nilR C.st t d e sz)) Q) : TS P K n C Q := TS_st2 (fun _ _ _ hs r => r.nilR hs) he k
end
section
variable {P : Program} {K : Ctx} {n : Nat} {Q : Exit → St → Prop} {C : Cfg} {D : Dr} {o : Oper} {s : St}
def ncArgs (_ : Program) (s : St) (o : Oper) : Option (Nat × Nat × Nat × Nat) := match o.op with
  | .nilCheck x => match opd s x with
    | some (.c (.elt d sz i off)) => some (d, sz, i, off)
    | _ => none
  | _ => none
theorem grow_nc {d sz i off : Nat} (h : ncArgs P s o = some (d, sz, i, off)) : GrowOp P o s (.c (.elt d sz i off)) := by
  unfold ncArgs at h
  split at h
  rotate_left
  · cases h
  rename_i x ho
  split at h
  rotate_left
  · cases h
  rename_i hx
  cases h
  refine PureOp.grow fun g rd A w hview => ?_
  have hr := hview.op x _ (by simp [ho, Op.operands]) hx
  obtain ⟨b, N, c, h1, h2⟩ := hr
  exact ⟨_, by simp [execOp, ho, h2], ⟨b, N, c, h1, rfl⟩⟩
theorem TS_nc (d sz i off : Nat) (h : C.with1 (ncArgs P) = some (d, sz, i, off)) (hg : C.go1 n = true) (kk : TS P K n (C.ret (.c (.elt d sz i off))) Q) : TS P K n C Q :=
  TS_val _ hg (fun _os _o ho => grow_nc (with1_op h ho)) kk
theorem TD_nc (d sz i off : Nat) (h : D.with1 (ncArgs P) = some (d, sz, i, off)) (hg : D.go1 n = true) (kk : TD P K n (D.ret (.c (.elt d sz i off))) Q) : TD P K n D Q :=
  TD_val _ hg (fun _os _o ho => grow_nc (with1D_op h ho)) kk
end
end Go.Proofs.Ytbncbjblbdjddaa
