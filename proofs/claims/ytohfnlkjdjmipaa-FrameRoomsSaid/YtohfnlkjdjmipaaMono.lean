/-
  A LAW FOR REGIONS THAT DRAW THEIR ORDER: operations that may make new memory but change none that was there, in whatever order they come, may be walked once in the order of the text. The value of an operation need not be one and the same in all worlds: it is known by a fact ('psi') that stays true when memory grows.
-/
import Derived.WalkKit
import Derived.StillTail
import Derived.BigQuiet
namespace Go.Proofs.Ytohfnlkjdjmipaa
open Go.RowKit

/-- what a call has added: new blocks, and draws -/
structure Grow where
  ext : Array Obj
  n : Nat
instance : Nonempty Grow := ⟨⟨#[], 0⟩⟩
/-- new blocks behind the old ones, and some draws -/
def wplus (w : World) (g : Grow) : World := { w with heap := w.heap ++ g.ext, drawn := g.n }

/-- w' is w with new blocks, and some draws -/
def Ext (w w' : World) : Prop := ∃ g : Grow, w' = wplus w g

def Grow.and (g h : Grow) : Grow := ⟨g.ext ++ h.ext, h.n⟩
def Grow.draw (g : Grow) : Grow := ⟨g.ext, g.n + 1⟩

theorem Ext.plus (w : World) (g : Grow) : Ext w (wplus w g) := ⟨g, rfl⟩
theorem Ext.refl (w : World) : Ext w w := ⟨⟨#[], w.drawn⟩, by simp [wplus]⟩
theorem Ext.trans {a b c : World} (h : Ext a b) (k : Ext b c) : Ext a c := by
  obtain ⟨g, rfl⟩ := h
  obtain ⟨h, rfl⟩ := k
  exact ⟨g.and h, by simp [wplus, Grow.and]⟩
theorem Ext.below {w w' : World} (h : Ext w w') : Below w.heap.size w w' := by
  obtain ⟨g, rfl⟩ := h
  refine ⟨rfl, rfl, rfl, by simp [wplus], fun k hk => ?_⟩
  simp [wplus, Array.getElem?_append_left hk]
theorem Ext.of_below {w w' : World} (h : Below w.heap.size w w') : Ext w w' := by
  obtain ⟨h1, h2, h3, h4, h5⟩ := h
  refine ⟨⟨w'.heap.extract w.heap.size w'.heap.size, w'.drawn⟩, ?_⟩
  obtain ⟨heap, tape, drawn, os, output⟩ := w
  obtain ⟨heap', tape', drawn', os', output'⟩ := w'
  simp only [wplus] at *
  subst h1 h2 h3
  simp only [World.mk.injEq, and_true]
  apply Array.ext_getElem?
  intro i
  rcases Nat.lt_or_ge i heap.size with hi | hi
  · rw [h5 i hi, Array.getElem?_append_left hi]
  · rw [Array.getElem?_append_right hi]
    rcases Nat.lt_or_ge i heap'.size with hj | hj
    · rw [Array.getElem?_extract, if_pos (by omega)]
      congr 1; omega
    · rw [Array.getElem?_eq_none hj, Array.getElem?_eq_none (by simp; omega)]
theorem Ext.drew (w : World) : Ext w w.drew := ⟨⟨#[], w.drawn + 1⟩, by unfold wplus World.drew; rw [Array.append_empty]⟩
theorem Ext.alloc (w : World) (o : Obj) : Ext w (w.alloc o) := ⟨⟨#[o], w.drawn⟩, by unfold wplus World.alloc; rw [Array.append_singleton]⟩

section
variable (w : World) (g : Grow)
@[simp] theorem size_plus : (wplus w g).heap.size = w.heap.size + g.ext.size := by simp [wplus]
@[simp] theorem tape_plus : (wplus w g).tape = w.tape := rfl
theorem heap_plus {k : Nat} (h : k < w.heap.size) : (wplus w g).heap[k]? = w.heap[k]? := by
  simp [wplus, Array.getElem?_append_left h]
@[go_sem] theorem cell_plus (b i : Nat) (s) (h : b < w.heap.size) : (wplus w g).cell? ⟨b, i, s⟩ = w.cell? ⟨b, i, s⟩ :=
  World.cell?_of_block (w := w) (heap_plus w g h)
@[go_sem] theorem frozen_plus (b i : Nat) (s) (h : b < w.heap.size) : (wplus w g).frozen? ⟨b, i, s⟩ = w.frozen? ⟨b, i, s⟩ :=
  World.frozen?_of_block (w := w) (heap_plus w g h)
@[go_sem] theorem drew_plus : (wplus w g).drew = wplus w g.draw := rfl
@[go_sem] theorem plus_drew : wplus w.drew g = wplus w g := rfl
@[go_sem] theorem setCell_plus (b i : Nat) (s) (v : Value) (h : b < w.heap.size) : (wplus w g).setCell ⟨b, i, s⟩ v = wplus (w.setCell ⟨b, i, s⟩ v) g := by
  simp only [World.setCell, wplus]
  congr 1
  apply Array.ext_getElem?
  intro k
  rw [Array.getElem?_modify]
  rcases Nat.lt_or_ge k w.heap.size with hk | hk
  · rw [Array.getElem?_append_left hk, Array.getElem?_append_left (by simpa using hk), Array.getElem?_modify]
  · rw [Array.getElem?_append_right hk, Array.getElem?_append_right (by simpa using hk), if_neg (by omega)]
    simp
@[go_sem] theorem plus_plus (h : Grow) : wplus (wplus w g) h = wplus w (g.and h) := by
  simp [wplus, Grow.and]
end

/-! ### the law -/

/-- what is known of each temporary, in a world -/
abbrev Facts := Tmp → World → Prop
def Facts.upd (F : Facts) (dst : Option Tmp) (p : World → Prop) : Facts := fun t w => match dst with
  | some d => if t = d then p w else F t w
  | none => F t w

section
variable {P : Program} {ops : Array Oper} {md : Region.Mode} {C : World → Prop} {psi : Nat → Option (Value → World → Prop)}

def mFacts (ops : Array Oper) (o : Oper) (F : Facts) (w : World) : Prop := ∀ d ∈ o.looksAt ops, F d w

def calm (v : Value) (w : World) (r : Result Next) : Prop := r = .ok (.value v) w ∨ (r = .ok .skip w ∧ v = undef)

def mPost (P : Program) (C : World → Prop) (o : Oper) (a : Act) : Option (Value → World → Prop) → Value → World → Prop
  | none, v, _ => ∃ w0, C w0 ∧ calm v w0 ((execOp a.eval o).run P w0)
  | some p, v, w => p v w

def mUpon (P : Program) (post : Value → World → Prop) (w : World) : Result Next → Prop
  | .ok (.value v) w' => Ext w w' ∧ post v w'
  | .ok .skip w' => Ext w w' ∧ post undef w'
  | .ok (.enter f args) w' => Calls P f args w' fun e w'' => ∃ v, e = .returned v ∧ Ext w w'' ∧ post v w''
  | _ => False
def mSafe (P : Program) (post : Value → World → Prop) (o : Oper) (a : Act) (w : World) : Prop := mUpon P post w ((execOp a.eval o).run P w)

/-- the class of worlds is closed, and what is known stays -/
def Steady (C : World → Prop) (p : World → Prop) : Prop := ∀ w w', C w → Ext w w' → p w → p w'

def mOp (P : Program) (ops : Array Oper) (C : World → Prop) (psi : Nat → Option (Value → World → Prop)) (i : Nat) (K : Act → Facts → (World → Prop) → Prop) (a : Act) (F : Facts) (J : World → Prop) : Prop :=
  match ops[i]? with
  | none => K a F J
  | some o =>
    if Region.wanted o (yielded ops a.tmps) then
      (∀ w, C w → mFacts ops o F w → mSafe P (mPost P C o a (psi i)) o a w) ∧
      ∀ v, (∃ w, C w ∧ J w ∧ mPost P C o a (psi i) v w) → K (a.put o.dst v) (F.upd o.dst fun w => mPost P C o a (psi i) v w ∧ mFacts ops o F w) (fun w => J w ∧ mPost P C o a (psi i) v w)
    else K (a.put o.dst undef) (F.upd o.dst fun _ => True) J

theorem mSafe.wp {post : Value → World → Prop} {o : Oper} {a : Act} {w : World} {K' : Act → World → Prop} {Q' : Exit → Act → World → Prop} (h : mSafe P post o a w)
    (k : ∀ v w', Ext w w' → post v w' → K' (a.put o.dst v) w') : o.wp P a w K' Q' := by
  unfold mSafe at h
  unfold Oper.wp
  generalize (execOp a.eval o).run P w = r at *
  cases r with
  | ok n w' =>
    cases n <;> simp only [mUpon] at h <;> simp only [Oper.upon]
    case value v => exact k _ _ h.1 h.2
    case skip => exact k _ _ h.1 h.2
    case enter f args => exact h.mono fun e w'' ⟨v, he, h1, h2⟩ => by subst he; exact k _ _ h1 h2
  | halt x w' => simp only [mUpon] at h

/-- an operation that is safe yields something -/
theorem mSafe.some {post : Value → World → Prop} {o : Oper} {a : Act} {w : World} (h : mSafe P post o a w) : ∃ v w', Ext w w' ∧ post v w' := by
  unfold mSafe at h
  generalize (execOp a.eval o).run P w = r at *
  cases r with
  | ok n w' =>
    cases n <;> simp only [mUpon] at h
    case value v => exact ⟨_, _, h.1, h.2⟩
    case skip => exact ⟨_, _, h.1, h.2⟩
    case enter f args =>
      obtain ⟨e, w'', fr, ⟨v, _, h1, h2⟩, _⟩ := h []
      exact ⟨v, w'', h1, h2⟩
  | halt x w' => simp only [mUpon] at h

theorem mFacts_upd {o : Oper} {F : Facts} {dst : Option Tmp} {p : World → Prop} (h : ∀ d, dst = some d → d ∉ o.looksAt ops) : mFacts ops o (F.upd dst p) = mFacts ops o F := by
  funext w
  unfold mFacts
  apply propext
  constructor
  · intro k d hd
    have := k d hd
    cases dst with
    | none => exact this
    | some e =>
      have hne : d ≠ e := fun he => h e rfl (he ▸ hd)
      simpa [Facts.upd, hne] using this
  · intro k d hd
    have := k d hd
    cases dst with
    | none => exact this
    | some e =>
      have hne : d ≠ e := fun he => h e rfl (he ▸ hd)
      simpa [Facts.upd, hne] using this

theorem upd_comm (F : Facts) {x y : Option Tmp} (p q : World → Prop) (h : ∀ d, x = some d → y ≠ some d) : (F.upd x p).upd y q = (F.upd y q).upd x p := by
  funext t w
  cases x with
  | none => rfl
  | some d =>
    cases y with
    | none => rfl
    | some e =>
      have hne : d ≠ e := fun he => h d rfl (he ▸ rfl)
      simp only [Facts.upd]
      by_cases h1 : t = d
      · have h2 : t ≠ e := fun h2 => hne (h1 ▸ h2)
        simp [h1, hne]
      · simp [h1]

theorem mPost_put {o : Oper} (hs : ∀ cs b, o.op ≠ .select cs b) {a : Act} {dst : Option Tmp} {u : Value} (h : ∀ d, dst = some d → d ∉ o.looksAt ops) (p : Option (Value → World → Prop)) :
    mPost P C o (a.put dst u) p = mPost P C o a p := by
  cases p with
  | some p => rfl
  | none => funext v w; simp only [mPost]; rw [execOp_put (ops := ops) o hs a dst u h]

theorem mSafe_put {o : Oper} (hs : ∀ cs b, o.op ≠ .select cs b) {a : Act} {dst : Option Tmp} {u : Value} (h : ∀ d, dst = some d → d ∉ o.looksAt ops) (post : Value → World → Prop) (w : World) :
    mSafe P post o (a.put dst u) w = mSafe P post o a w := by
  unfold mSafe
  rw [execOp_put (ops := ops) o hs a dst u h]

theorem mOp_mono {i : Nat} {K K' : Act → Facts → (World → Prop) → Prop} {a : Act} {F : Facts} {J : World → Prop} (hJ : ∃ w, C w ∧ J w)
    (h : ∀ a F J, (∃ w, C w ∧ J w) → K a F J → K' a F J) (hh : mOp P ops C psi i K a F J) : mOp P ops C psi i K' a F J := by
  unfold mOp at *
  split
  · rename_i ho; simp only [ho] at hh; exact h _ _ _ hJ hh
  · rename_i o ho
    simp only [ho] at hh
    split
    · rename_i hw
      simp only [hw, if_true] at hh
      exact ⟨hh.1, fun v hv => h _ _ _ (let ⟨w, h1, h2, h3⟩ := hv; ⟨w, h1, h2, h3⟩) (hh.2 v hv)⟩
    · rename_i hw; simp only [hw] at hh; exact h _ _ _ hJ hh

theorem mOp_swap (hcl : ∀ w w', C w → Ext w w' → C w') {i j : Nat} {oi oj : Oper} (hi : ops[i]? = some oi) (hj : ops[j]? = some oj) (hap : oi.apart ops oj = true)
    (hsi : ∀ cs b, oi.op ≠ .select cs b) (hsj : ∀ cs b, oj.op ≠ .select cs b) {K : Act → Facts → (World → Prop) → Prop} {a : Act} {F : Facts} {J : World → Prop}
    (hsJ : Steady C J) (hJF : ∀ w, J w → ∀ d, F d w) (hJ : ∃ w, C w ∧ J w)
    (h : mOp P ops C psi i (fun a F J => mOp P ops C psi j K a F J) a F J) : mOp P ops C psi j (fun a F J => mOp P ops C psi i K a F J) a F J := by
  obtain ⟨h1, h2, h3⟩ := Oper.apart_spec hap
  have h2' : ∀ d, oj.dst = some d → oi.dst ≠ some d := fun d hd he => h2 d he hd
  unfold mOp at *
  simp only [hi, hj] at *
  by_cases wi : Region.wanted oi (yielded ops a.tmps) = true
  · simp only [wi, if_true] at h
    obtain ⟨s1, k1⟩ := h
    obtain ⟨w0, c0, j0⟩ := hJ
    obtain ⟨v0, w1, e1, p1⟩ := (s1 w0 c0 (fun d _ => hJF w0 j0 d)).some
    have H0 := k1 v0 ⟨w1, hcl _ _ c0 e1, hsJ _ _ c0 e1 j0, p1⟩
    rw [wanted_put oj a oi.dst v0 h1] at H0
    by_cases wj : Region.wanted oj (yielded ops a.tmps) = true
    · simp only [wj, if_true] at H0 ⊢
      refine ⟨fun w hw hf => ?_, fun u hu => ?_⟩
      · have := H0.1 w hw (by rw [mFacts_upd h1]; exact hf)
        rw [mSafe_put (ops := ops) hsj h1, mPost_put (ops := ops) hsj h1] at this
        exact this
      · rw [wanted_put oi a oj.dst u h3]
        simp only [wi, if_true]
        refine ⟨fun w hw hf => ?_, fun v hv => ?_⟩
        · rw [mSafe_put (ops := ops) hsi h3, mPost_put (ops := ops) hsi h3]
          exact s1 w hw (by rw [mFacts_upd h3] at hf; exact hf)
        · rw [mPost_put (ops := ops) hsi h3] at hv ⊢
          obtain ⟨w2, c2, ⟨j2, q2⟩, r2⟩ := hv
          have H := k1 v ⟨w2, c2, j2, r2⟩
          rw [wanted_put oj a oi.dst v h1] at H
          simp only [wj, if_true] at H
          have H' := H.2 u ⟨w2, c2, ⟨j2, r2⟩, by rw [mPost_put (ops := ops) hsj h1]; exact q2⟩
          rw [mPost_put (ops := ops) hsj h1, Act.put_comm a v u h2, mFacts_upd h1, upd_comm _ _ _ h2] at H'
          rw [mFacts_upd h3]
          have ej : (fun w => (J w ∧ mPost P C oi a (psi i) v w) ∧ mPost P C oj a (psi j) u w) = (fun w => (J w ∧ mPost P C oj a (psi j) u w) ∧ mPost P C oi a (psi i) v w) := by
            funext w; exact propext and_right_comm
          rw [ej] at H'
          exact H'
    · simp only [wj, if_false, Bool.false_eq_true] at H0 ⊢
      rw [wanted_put oi a oj.dst undef h3]
      simp only [wi, if_true]
      refine ⟨fun w hw hf => ?_, fun v hv => ?_⟩
      · rw [mSafe_put (ops := ops) hsi h3, mPost_put (ops := ops) hsi h3]
        exact s1 w hw (by rw [mFacts_upd h3] at hf; exact hf)
      · rw [mPost_put (ops := ops) hsi h3] at hv ⊢
        have H := k1 v hv
        rw [wanted_put oj a oi.dst v h1] at H
        simp only [wj, if_false, Bool.false_eq_true] at H
        rw [Act.put_comm a v undef h2, upd_comm _ _ _ h2] at H
        rw [mFacts_upd h3]
        exact H
  · simp only [wi, if_false, Bool.false_eq_true] at h
    rw [wanted_put oj a oi.dst undef h1] at h
    by_cases wj : Region.wanted oj (yielded ops a.tmps) = true
    · simp only [wj, if_true] at h ⊢
      refine ⟨fun w hw hf => ?_, fun u hu => ?_⟩
      · have := h.1 w hw (by rw [mFacts_upd h1]; exact hf)
        rw [mSafe_put (ops := ops) hsj h1, mPost_put (ops := ops) hsj h1] at this
        exact this
      · rw [wanted_put oi a oj.dst u h3]
        simp only [wi, if_false, Bool.false_eq_true]
        have H := h.2 u (by rw [mPost_put (ops := ops) hsj h1]; exact hu)
        rw [mPost_put (ops := ops) hsj h1, Act.put_comm a undef u h2, mFacts_upd h1, upd_comm _ _ _ h2] at H
        exact H
    · simp only [wj, if_false, Bool.false_eq_true] at h ⊢
      rw [wanted_put oi a oj.dst undef h3]
      simp only [wi, if_false, Bool.false_eq_true]
      rw [Act.put_comm a undef undef h2, upd_comm _ _ _ h2] at h
      exact h

/-- whatever order is picked from here on, till n operations are through -/
def wpAnyM (P : Program) (md : Region.Mode) (ops : Array Oper) (C : World → Prop) (psi : Nat → Option (Value → World → Prop)) (n : Nat) (L : Array Bool → Act → (World → Prop) → Prop) : Nat → Array Bool → Act → Facts → (World → Prop) → Prop
  | 0, listed, a, _, J => L listed a J
  | f + 1, listed, a, F, J => Region.ready md ops listed ≠ [] ∧ ∀ i ∈ Region.ready md ops listed, i < n ∧ mOp P ops C psi i (wpAnyM P md ops C psi n L f (listed.setIfInBounds i true)) a F J

theorem steady_and {p q : World → Prop} (h : Steady C p) (k : Steady C q) : Steady C fun w => p w ∧ q w := fun w w' c e x => ⟨h w w' c e x.1, k w w' c e x.2⟩
theorem steady_post (hpsi : ∀ i p, psi i = some p → ∀ v, Steady C (p v)) (i : Nat) (o : Oper) (a : Act) (v : Value) : Steady C (mPost P C o a (psi i) v) := by
  cases h : psi i with
  | none => exact fun _ _ _ _ x => x
  | some p => exact hpsi i p h v

theorem wpAny_of_M (hcl : ∀ w w', C w → Ext w w' → C w') (hpsi : ∀ i p, psi i = some p → ∀ v, Steady C (p v)) {n g : Nat} {L : Array Bool → Act → (World → Prop) → Prop} {Q' : Exit → Act → World → Prop}
    (hL : ∀ listed a J w, C w → J w → L listed a J → wpAny P md ops Q' g listed a w) :
    ∀ (f : Nat) (listed : Array Bool) (a : Act) (F : Facts) (J : World → Prop) (w : World), C w → J w → Steady C J → (∀ w, J w → ∀ d, F d w) → (∀ d, Steady C (F d)) →
      wpAnyM P md ops C psi n L f listed a F J → wpAny P md ops Q' (f + g) listed a w
  | 0, listed, a, F, J, w, hC, hJ, _, _, _, h => by rw [Nat.zero_add]; exact hL _ _ _ _ hC hJ h
  | f + 1, listed, a, F, J, w, hC, hJ, hsJ, hJF, hsF, h => by
    rw [show f + 1 + g = (f + g) + 1 by omega]
    refine ⟨fun h0 => absurd h0 h.1, fun i hi => ?_⟩
    have hh := (h.2 i hi).2
    unfold mOp at hh
    unfold wpOp
    cases ho : ops[i]? with
    | none =>
      simp only [ho] at hh
      exact wpAny_of_M hcl hpsi hL f _ _ _ _ _ hC hJ hsJ hJF hsF hh
    | some o =>
      simp only [ho] at hh ⊢
      split
      · rename_i hw
        simp only [hw, if_true] at hh
        refine .inl ((hh.1 w hC fun d _ => hJF w hJ d).wp fun v w' he hp => ?_)
        have hC' := hcl _ _ hC he
        have hJ' := hsJ _ _ hC he hJ
        refine wpAny_of_M hcl hpsi hL f _ _ _ _ w' hC' ⟨hJ', hp⟩ (steady_and hsJ (steady_post hpsi i o a v)) ?_ ?_ (hh.2 v ⟨w', hC', hJ', hp⟩)
        · intro w2 ⟨j2, p2⟩ d
          simp only [Facts.upd]
          split
          · split
            · exact ⟨p2, fun d _ => hJF w2 j2 d⟩
            · exact hJF w2 j2 d
          · exact hJF w2 j2 d
        · intro d w2 w3 c2 e2
          simp only [Facts.upd]
          split
          · split
            · intro x; exact ⟨steady_post hpsi i o a v _ _ c2 e2 x.1, fun d hd => hsF d _ _ c2 e2 (x.2 d hd)⟩
            · exact hsF d _ _ c2 e2
          · exact hsF d _ _ c2 e2
      · rename_i hw
        simp only [hw] at hh
        refine wpAny_of_M hcl hpsi hL f _ _ _ _ w hC hJ hsJ ?_ ?_ hh
        · intro w2 j2 d
          simp only [Facts.upd]
          split
          · split
            · trivial
            · exact hJF w2 j2 d
          · exact hJF w2 j2 d
        · intro d w2 w3 c2 e2
          simp only [Facts.upd]
          split
          · split
            · intro _; trivial
            · exact hsF d _ _ c2 e2
          · exact hsF d _ _ c2 e2

theorem wpAnyM_first (hcl : ∀ w w', C w → Ext w w' → C w') (hpsi : ∀ i p, psi i = some p → ∀ v, Steady C (p v)) {n i : Nat} {oi : Oper} {L : Array Bool → Act → (World → Prop) → Prop} (hi : ops[i]? = some oi)
    (hsel : ∀ (j : Nat) (o : Oper) cs b, ops[j]? = some o → o.op ≠ .select cs b) (hin : i < n)
    (hwait : ∀ listed, HeadInv md ops n listed → (∃ k, k < n ∧ listed.getD k true = false) → ∀ t ∈ Region.ready md ops listed, t < n)
    (hdone : ∀ listed a J, L listed a J → ∀ j ∈ Region.ready md ops listed, n ≤ j) :
    ∀ (f : Nat) (listed : Array Bool) (a : Act) (F : Facts) (J : World → Prop), HeadInv md ops n listed →
      (∀ j oj, ops[j]? = some oj → j ≠ i → listed.getD j true = false → (∀ e ∈ oj.after, Region.binds md e = true → e.on ≠ i) → oi.apart ops oj = true) →
      i ∈ Region.ready md ops listed → Steady C J → (∀ w, J w → ∀ d, F d w) → (∃ w, C w ∧ J w) →
      mOp P ops C psi i (wpAnyM P md ops C psi n L f (listed.setIfInBounds i true)) a F J → wpAnyM P md ops C psi n L (f + 1) listed a F J := by
  intro f
  induction f with
  | zero =>
    intro listed a F J inv _ hr hsJ hJF hJ H
    have hun := (mem_ready.1 hr).1
    refine ⟨fun h => (by rw [h] at hr; cases hr), fun j hj => ?_⟩
    have hjn := hwait listed inv ⟨i, hin, hun⟩ j hj
    refine ⟨hjn, ?_⟩
    by_cases hji : j = i
    · subst hji; exact H
    · exfalso
      have key : ∃ a' J', L (listed.setIfInBounds i true) a' J' := by
        unfold mOp at H
        simp only [hi] at H
        by_cases wi : Region.wanted oi (yielded ops a.tmps) = true
        · simp only [wi, if_true] at H
          obtain ⟨w0, c0, j0⟩ := hJ
          obtain ⟨v0, w1, e1, p1⟩ := (H.1 w0 c0 (fun d _ => hJF w0 j0 d)).some
          exact ⟨_, _, H.2 v0 ⟨w1, hcl _ _ c0 e1, hsJ _ _ c0 e1 j0, p1⟩⟩
        · simp only [wi, if_false, Bool.false_eq_true] at H
          exact ⟨_, _, H⟩
      obtain ⟨a', J', hL⟩ := key
      have := hdone _ _ _ hL j (ready_mono hj hji)
      omega
  | succ f ih =>
    intro listed a F J inv hfree hr hsJ hJF hJ H
    have hun := (mem_ready.1 hr).1
    refine ⟨fun h => (by rw [h] at hr; cases hr), fun j hj => ?_⟩
    have hjn := hwait listed inv ⟨i, hin, hun⟩ j hj
    refine ⟨hjn, ?_⟩
    by_cases hji : j = i
    · subst hji; exact H
    · obtain ⟨hjun, oj, hoj, hall⟩ := mem_ready.1 hj
      have hnot : ∀ e ∈ oj.after, Region.binds md e = true → e.on ≠ i := fun e he hb heq => by
        have h1 := hall e he hb
        rw [heq, getD_both hun] at h1
        cases h1
      have hap := hfree j oj hoj hji hjun hnot
      have H1 : mOp P ops C psi i (fun a F J => mOp P ops C psi j (wpAnyM P md ops C psi n L f ((listed.setIfInBounds i true).setIfInBounds j true)) a F J) a F J :=
        mOp_mono hJ (fun a F J _ h => (h.2 j (ready_mono hj hji)).2) H
      have H2 := mOp_swap hcl hi hoj hap (fun cs b => hsel i oi cs b hi) (fun cs b => hsel j oj cs b hoj) hsJ hJF hJ H1
      have hfree' : ∀ k ok, ops[k]? = some ok → k ≠ i → (listed.setIfInBounds j true).getD k true = false →
          (∀ e ∈ ok.after, Region.binds md e = true → e.on ≠ i) → oi.apart ops ok = true := fun k ok hk hki hun hno => by
        refine hfree k ok hk hki ?_ hno
        by_cases hjk : j = k
        · subst hjk; exact hjun
        · rw [getD_set_ne true hjk] at hun; exact hun
      -- the operation j first, then i may be taken first
      unfold mOp at H2 ⊢
      simp only [hoj] at H2 ⊢
      by_cases wj : Region.wanted oj (yielded ops a.tmps) = true
      · simp only [wj, if_true] at H2 ⊢
        refine ⟨H2.1, fun u hu => ?_⟩
        have H3 := H2.2 u hu
        rw [Array.setIfInBounds_comm _ _ (Ne.symm hji)] at H3
        refine ih (listed.setIfInBounds j true) _ _ _ (inv.set hj hjn) hfree' (ready_mono hr (Ne.symm hji)) (steady_and hsJ (steady_post hpsi j oj a u)) ?_ (let ⟨w, h1, h2, h3⟩ := hu; ⟨w, h1, h2, h3⟩) H3
        intro w2 ⟨j2, p2⟩ d
        simp only [Facts.upd]
        split
        · split
          · exact ⟨p2, fun d _ => hJF w2 j2 d⟩
          · exact hJF w2 j2 d
        · exact hJF w2 j2 d
      · simp only [wj, if_false, Bool.false_eq_true] at H2 ⊢
        rw [Array.setIfInBounds_comm _ _ (Ne.symm hji)] at H2
        refine ih (listed.setIfInBounds j true) _ _ _ (inv.set hj hjn) hfree' (ready_mono hr (Ne.symm hji)) hsJ ?_ hJ H2
        intro w2 j2 d
        simp only [Facts.upd]
        split
        · split
          · trivial
          · exact hJF w2 j2 d
        · exact hJF w2 j2 d

/-- the walk in the order of the text: from operation k on -/
def wpM (P : Program) (ops : Array Oper) (C : World → Prop) (psi : Nat → Option (Value → World → Prop)) (L : Act → (World → Prop) → Prop) : List Oper → Nat → Act → Facts → (World → Prop) → Prop
  | [], _, a, _, J => L a J
  | o :: rest, k, a, F, J =>
    if Region.wanted o (yielded ops a.tmps) then
      (∀ w, C w → mFacts ops o F w → mSafe P (mPost P C o a (psi k)) o a w) ∧
      ∀ v, (∃ w, C w ∧ J w ∧ mPost P C o a (psi k) v w) → wpM P ops C psi L rest (k + 1) (a.put o.dst v) (F.upd o.dst fun w => mPost P C o a (psi k) v w ∧ mFacts ops o F w) (fun w => J w ∧ mPost P C o a (psi k) v w)
    else wpM P ops C psi L rest (k + 1) (a.put o.dst undef) (F.upd o.dst fun _ => True) J

theorem wpAnyM_lex (hcl : ∀ w w', C w → Ext w w' → C w') (hpsi : ∀ i p, psi i = some p → ∀ v, Steady C (p v)) {n : Nat} {B : Array Bool → Bool} {L : Act → (World → Prop) → Prop}
    (hsel : Region.noSelect ops = true)
    (hwait : ∀ listed, HeadInv md ops n listed → (∃ k, k < n ∧ listed.getD k true = false) → ∀ t ∈ Region.ready md ops listed, t < n)
    (hB : ∀ listed, B listed = true → ∀ j ∈ Region.ready md ops listed, n ≤ j) (lex : Nat → Nat → Array Bool → Bool)
    (hlex0 : ∀ listed, lex 0 n listed = B listed)
    (hlex : ∀ f k listed, lex (f + 1) k listed = ((Region.ready md ops listed).contains k && Region.free md ops listed k && lex f (k + 1) (listed.setIfInBounds k true))) :
    ∀ (l : List Oper) (k : Nat) (listed : Array Bool) (a : Act) (F : Facts) (J : World → Prop), (∀ j, j < l.length → l[j]? = ops[k + j]?) → k + l.length = n → HeadInv md ops n listed →
    lex l.length k listed = true → Steady C J → (∀ w, J w → ∀ d, F d w) → (∃ w, C w ∧ J w) → wpM P ops C psi L l k a F J →
    wpAnyM P md ops C psi n (fun listed' a' J' => B listed' = true ∧ L a' J') l.length listed a F J
  | [], k, listed, a, F, J, _, hk, _, hB', _, _, _, h => ⟨by simp only [List.length_nil, Nat.add_zero] at hk hB'; subst hk; rw [← hlex0]; exact hB', h⟩
  | o :: l, k, listed, a, F, J, hl, hk, inv, hB', hsJ, hJF, hJ, h => by
    have h0 : ops[k]? = some o := by simpa using (hl 0 (by simp)).symm
    simp only [List.length_cons, hlex, Bool.and_eq_true] at hB'
    obtain ⟨⟨hr, hf⟩, hB''⟩ := hB'
    have hkn : k < n := by simp only [List.length_cons] at hk; omega
    have hr' : k ∈ Region.ready md ops listed := by simpa using hr
    refine wpAnyM_first hcl hpsi h0 (Region.noSelect_spec hsel) hkn hwait (fun listed' a' J' hL => hB listed' hL.1) l.length listed a F J inv (Region.free_spec h0 hf) hr' hsJ hJF hJ ?_
    have again := fun a F J hsJ hJF hJ h => wpAnyM_lex (L := L) hcl hpsi hsel hwait hB lex hlex0 hlex l (k + 1) (listed.setIfInBounds k true) a F J (fun j hj => by have := hl (j + 1) (by simp; omega); simpa [Nat.add_assoc, Nat.add_comm 1 j] using this) (by simp only [List.length_cons] at hk; omega) (inv.set hr' hkn) hB'' hsJ hJF hJ h
    unfold mOp
    simp only [h0]
    unfold wpM at h
    split
    · rename_i hw
      simp only [hw, if_true] at h
      refine ⟨h.1, fun v hv => again _ _ _ (steady_and hsJ (steady_post hpsi k o a v)) ?_ (let ⟨w, h1, h2, h3⟩ := hv; ⟨w, h1, h2, h3⟩) (h.2 v hv)⟩
      intro w2 ⟨j2, p2⟩ d
      simp only [Facts.upd]
      split
      · split
        · exact ⟨p2, fun d _ => hJF w2 j2 d⟩
        · exact hJF w2 j2 d
      · exact hJF w2 j2 d
    · rename_i hw
      simp only [hw] at h
      refine again _ _ _ hsJ ?_ hJ h
      intro w2 j2 d
      simp only [Facts.upd]
      split
      · split
        · trivial
        · exact hJF w2 j2 d
      · exact hJF w2 j2 d

def noFacts : Facts := fun _ _ => True

/-- THE LAW, the whole region -/
theorem wp_region_mono {id : Nat} {Q : Exit → Act → World → Prop} {a : Act} {w : World} {l : List Oper} (psi : Nat → Option (Value → World → Prop)) (hm : P.follows .mixedOrders = true) (hB : Region.lexB .any l.toArray = true)
    (hpsi : ∀ i p, psi i = some p → ∀ v, Steady (Ext w) (p v))
    (h : wpM P l.toArray (Ext w) psi (fun a' J' => ∀ w', Ext w w' → J' w' → Q .normal a' w') l 0 a noFacts (fun _ => True)) : (Code.region id l.toArray true).wp P Q a w := by
  simp only [Region.lexB, Bool.and_eq_true] at hB
  refine wp_region_any hm ?_
  have inv0 : HeadInv .any l.toArray l.length (Array.replicate l.toArray.size false) :=
    ⟨by simp, fun j oj _ hl => (by rw [getD_replicate_false] at hl; cases hl), fun t h1 h2 => by simp at h2; omega⟩
  have rlt : ∀ (listed : Array Bool) (t : Nat), t ∈ Region.ready .any l.toArray listed → t < l.length := fun listed t ht => by
    obtain ⟨_, o, ho, _⟩ := mem_ready.1 ht
    simpa using (Array.getElem?_eq_some_iff.1 ho).1
  have H := wpAnyM_lex (md := .any) (C := Ext w) (fun _ _ h k => h.trans k) hpsi (n := l.length) (B := fun listed => (Region.ready .any l.toArray listed).isEmpty) hB.1 (fun listed _ _ t ht => rlt listed t ht)
    (fun listed hb j hj => by simp only [List.isEmpty_iff] at hb; rw [hb] at hj; cases hj) (Region.lexFrom .any l.toArray) (fun _ => rfl) (fun _ _ _ => rfl) l 0 (Array.replicate l.toArray.size false) a noFacts (fun _ => True)
    (fun j _ => by simp) (by simp) inv0 (by simpa using hB.2) (fun _ _ _ _ _ => trivial) (fun _ _ _ => trivial) ⟨w, Ext.refl w, trivial⟩ h
  have := wpAny_of_M (md := .any) (C := Ext w) (fun _ _ h k => h.trans k) hpsi (g := 0) (Q' := Q) (fun listed a J w' hC hJ hL => ⟨by simpa using hL.1, hL.2 w' hC hJ⟩) l.length _ a noFacts (fun _ => True) { w with drawn := w.drawn + 1 } (Ext.drew w) trivial (fun _ _ _ _ _ => trivial) (fun _ _ _ => trivial) (fun _ _ _ _ _ _ => trivial) H
  simpa using this

/-- THE LAW, the first n operations; what is left goes in its own order -/
theorem wp_region_mono_tail {id : Nat} {Q : Exit → Act → World → Prop} {a : Act} {w : World} {l : List Oper} (n : Nat) (psi : Nat → Option (Value → World → Prop)) (hm : P.follows .mixedOrders = true) (hB : Region.lexTailB .any l.toArray n = true)
    (hpsi : ∀ i p, psi i = some p → ∀ v, Steady (Ext w) (p v))
    (h : wpM P l.toArray (Ext w) psi (fun a' J' => ∀ w', Ext w w' → J' w' → wpList P l.toArray Q (l.drop n) a' w') (l.take n) 0 a noFacts (fun _ => True)) : (Code.region id l.toArray true).wp P Q a w := by
  simp only [Region.lexTailB, Bool.and_eq_true, decide_eq_true_eq] at hB
  obtain ⟨⟨⟨⟨hsel, hn⟩, hs⟩, hc⟩, hlex⟩ := hB
  have hn' : n < l.length := by simpa using hn
  have htl : (l.take n).length = n := by simp; omega
  have hdl : (l.drop n).length = l.toArray.size - n := by simp
  refine wp_region_any hm ?_
  have inv0 : HeadInv .any l.toArray n (Array.replicate l.toArray.size false) :=
    ⟨by simp, fun j oj _ hl => (by rw [getD_replicate_false] at hl; cases hl), fun t _ ht => getD_in (by simpa using ht) (getD_replicate_false _ _)⟩
  have H := wpAnyM_lex (md := .any) (C := Ext w) (fun _ _ h k => h.trans k) hpsi (n := n) (B := fun listed => Region.seqB .any l.toArray (l.toArray.size - n) n listed) hsel
    (fun listed inv ⟨k, hk, hun⟩ t ht => by
      rcases Nat.lt_or_ge t n with h | h
      · exact h
      · exact absurd ht (tail_waits hs hc hn inv _ k rfl hk hun t h))
    (fun listed hb => seqB_ready hb) (Region.lexHead .any l.toArray (l.toArray.size - n)) (fun _ => rfl) (fun _ _ _ => rfl) (l.take n) 0 (Array.replicate l.toArray.size false) a noFacts (fun _ => True) (fun j hj => by
      have hj' : j < n := by rw [htl] at hj; exact hj
      simp [hj']) (by simpa using htl) inv0 (by rw [htl]; exact hlex) (fun _ _ _ _ _ => trivial) (fun _ _ _ => trivial) ⟨w, Ext.refl w, trivial⟩ h
  have := wpAny_of_M (md := .any) (C := Ext w) (fun _ _ h k => h.trans k) hpsi (g := l.toArray.size - n) (Q' := Q) (fun listed a' J w' hC hJ hL => by
      have := wpAny_of_seq (md := .any) (Q' := Q) (l.drop n) n listed a' w' (fun j => by simp [List.getElem?_drop]) (by rw [hdl]; exact hL.1) (hL.2 w' hC hJ)
      rwa [hdl] at this) _ _ a noFacts (fun _ => True) { w with drawn := w.drawn + 1 } (Ext.drew w) trivial (fun _ _ _ _ _ => trivial) (fun _ _ _ => trivial) (fun _ _ _ _ _ _ => trivial) H
  rw [htl, show n + (l.toArray.size - n) = l.toArray.size by omega] at this
  exact this

/-! ### the rules of the walk -/
variable {L : Act → (World → Prop) → Prop}

theorem wpM_weak : ∀ (l : List Oper) (k : Nat) (a : Act) (F F' : Facts) (J J' : World → Prop), (∀ d w, F d w → F' d w) → (∀ w, J w → J' w) → (∀ a J J', (∀ w, J w → J' w) → L a J' → L a J) →
    wpM P ops C psi L l k a F' J' → wpM P ops C psi L l k a F J
  | [], _, _, _, _, _, _, _, hJ, hL, h => hL _ _ _ hJ h
  | o :: l, k, a, F, F', J, J', hF, hJ, hL, h => by
    unfold wpM at h ⊢
    have hf : ∀ w, mFacts ops o F w → mFacts ops o F' w := fun w x d hd => hF d w (x d hd)
    split
    · rename_i hw
      simp only [hw, if_true] at h
      refine ⟨fun w c x => h.1 w c (hf w x), fun v hv => ?_⟩
      refine wpM_weak l (k + 1) _ _ _ _ _ ?_ ?_ hL (h.2 v (let ⟨w, h1, h2, h3⟩ := hv; ⟨w, h1, hJ w h2, h3⟩))
      · intro d w
        simp only [Facts.upd]
        split
        · split
          · exact fun x => ⟨x.1, hf w x.2⟩
          · exact hF d w
        · exact hF d w
      · exact fun w x => ⟨hJ w x.1, x.2⟩
    · rename_i hw
      simp only [hw] at h
      refine wpM_weak l (k + 1) _ _ _ _ _ ?_ hJ hL h
      intro d w
      simp only [Facts.upd]
      split
      · split
        · exact id
        · exact hF d w
      · exact hF d w

/-- what is asked at the end asks less where more is known -/
def Lax (L : Act → (World → Prop) → Prop) : Prop := ∀ a (J J' : World → Prop), (∀ w, J w → J' w) → L a J' → L a J
theorem lax_of {Q : Act → World → Prop} {w : World} : Lax fun a' J' => ∀ w', Ext w w' → J' w' → Q a' w' := fun _ _ _ h k w' e j => k w' e (h w' j)

theorem wpM_nil {k : Nat} {a : Act} {F : Facts} {J : World → Prop} (h : L a J) : wpM P ops C psi L [] k a F J := h

theorem wpM_skip {o : Oper} {l : List Oper} {k : Nat} {a : Act} {F : Facts} {J : World → Prop} (hw : Region.wanted o (yielded ops a.tmps) = false)
    (h : wpM P ops C psi L l (k + 1) (a.put o.dst undef) (F.upd o.dst fun _ => True) J) : wpM P ops C psi L (o :: l) k a F J := by
  unfold wpM
  simp only [hw, Bool.false_eq_true, if_false]
  exact h

/-- operations that enter no function -/
def plainOp : Op → Bool
  | .move _ | .assign _ | .pick .. | .build .. | .load .. | .binOp .. | .unOp .. | .convert .. | .slice .. | .fieldAddr .. | .field .. | .indexAddr .. | .index .. | .extract .. | .makeInterface .. => true
  | .call { callee := .builtin .len, .. } => true
  | .call { callee := .builtin .cap, .. } => true
  | _ => false


/-- the operation hands back a value, or nothing -/
def givesValue : Result Next → Prop
  | .ok (.value _) _ => True
  | .ok .skip _ => True
  | .ok _ _ => False
  | .halt _ _ => True
theorem givesValue_v {s : Sem Value} {w : World} : givesValue ((do pure (Next.value (← s)) : Sem Next).run P w) := by
  simp only [Sem.run_bind, Sem.run_pure]
  cases h : s.run P w <;> simp [Result.andThen, givesValue]

theorem plainOp_gives {o : Oper} {ρ : Operand → Value} {w : World} (h : plainOp o.op = true) : givesValue ((execOp ρ o).run P w) := by
  obtain ⟨dst, op, type, pos, after, guard⟩ := o
  cases op <;> simp only [plainOp, Bool.false_eq_true] at h <;> simp only [execOp]
  case call c =>
    obtain ⟨callee, args, argTypes⟩ := c
    cases callee <;> (try (simp at h; done))
    rename_i b
    cases b <;> (try (simp at h; done)) <;> simp only [resolve, invoke, builtin, Sem.run_bind, Sem.run_pure, Result.andThen] <;> split <;> simp [givesValue]
  case pick c a b =>
    simp only [Sem.run_bind, Sem.run_pure]
    cases h : (asBool (ρ c)).run P w <;> simp [Result.andThen, givesValue]
  all_goals first | exact givesValue_v | simp [givesValue]

theorem wpM_quiet {o : Oper} {l : List Oper} {k : Nat} {a : Act} {F : Facts} {J : World → Prop} (hL : Lax L) (hw : Region.wanted o (yielded ops a.tmps) = true) (hpsi : psi k = none) (hp : plainOp o.op = true)
    (h : ∀ K : Act → Prop, (∀ a', wpM P ops C psi L l (k + 1) a' (F.upd o.dst (mFacts ops o F)) J → K a') → o.quiet P a C K) : wpM P ops C psi L (o :: l) k a F J := by
  obtain ⟨v0, h1, h2⟩ := h _ (fun _ x => x)
  unfold wpM
  simp only [hw, if_true, hpsi]
  have key : ∀ w, C w → calm v0 w ((execOp a.eval o).run P w) := fun w hC => by
    have h3 := h1 w hC
    have h4 := plainOp_gives (P := P) (ρ := a.eval) (w := w) hp
    unfold Oper.quietAt at h3
    generalize (execOp a.eval o).run P w = r at *
    cases r with
    | halt x w' => simp only [Oper.quietUpon] at h3
    | ok n w' =>
      cases n <;> simp only [Oper.quietUpon] at h3 <;> simp only [givesValue] at h4
      case value u => obtain ⟨rfl, rfl⟩ := h3; exact .inl rfl
      case skip => obtain ⟨rfl, rfl⟩ := h3; exact .inr ⟨rfl, rfl⟩
  refine ⟨fun w hC _ => ?_, fun v hv => ?_⟩
  · unfold mSafe
    rcases key w hC with e | ⟨e, rfl⟩
    · rw [e]; exact ⟨Ext.refl w, w, hC, .inl e⟩
    · rw [e]; exact ⟨Ext.refl w, w, hC, .inr ⟨e, rfl⟩⟩
  · obtain ⟨_, _, _, w0, c0, hc⟩ := hv
    have : v = v0 := by
      rcases key w0 c0 with e | ⟨e, rfl⟩ <;> rcases hc with e' | ⟨e', rfl⟩ <;> rw [e] at e' <;> simp_all
    subst this
    refine wpM_weak l (k + 1) _ _ _ _ _ ?_ ?_ hL h2
    · intro d w
      simp only [Facts.upd]
      split
      · split
        · exact fun x => x.2
        · exact id
      · exact id
    · exact fun w x => x.1

theorem wpM_call {o : Oper} {l : List Oper} {k : Nat} {a : Act} {F : Facts} {J : World → Prop} (p : Value → World → Prop) (hw : Region.wanted o (yielded ops a.tmps) = true) (hpsi : psi k = some p)
    (h1 : ∀ w, C w → mFacts ops o F w → mSafe P p o a w)
    (h2 : ∀ v, (∃ w, C w ∧ J w ∧ p v w) → wpM P ops C psi L l (k + 1) (a.put o.dst v) (F.upd o.dst fun w => p v w ∧ mFacts ops o F w) (fun w => J w ∧ p v w)) : wpM P ops C psi L (o :: l) k a F J := by
  unfold wpM
  simp only [hw, if_true, hpsi]
  exact ⟨h1, h2⟩
end

/-! ### facts for the operations that make memory, by their numbers -/
def psiL (l : List (Nat × (Value → World → Prop))) : Nat → Option (Value → World → Prop) := fun i => match l with
  | [] => none
  | (k, p) :: rest => if i = k then some p else psiL rest i
def SteadyAll (C : World → Prop) : List (Nat × (Value → World → Prop)) → Prop
  | [] => True
  | (_, p) :: rest => (∀ v, Steady C (p v)) ∧ SteadyAll C rest
theorem steady_psiL {C : World → Prop} : ∀ {l : List (Nat × (Value → World → Prop))}, SteadyAll C l → ∀ i p, psiL l i = some p → ∀ v, Steady C (p v)
  | [], _, i, p, h => by simp [psiL] at h
  | (k, q) :: rest, hs, i, p, h => by
    unfold psiL at h
    split at h
    · injection h with h; subst h; exact hs.1
    · exact steady_psiL hs.2 i p h
/-- the value is just this one -/
def isV (v0 : Value) : Value → World → Prop := fun v _ => v = v0
theorem steady_isV {C : World → Prop} (v0 v : Value) : Steady C (isV v0 v) := fun _ _ _ _ h => h

theorem isV_of {C J : World → Prop} {v0 v : Value} (h : ∃ w, C w ∧ J w ∧ isV v0 v w) : v = v0 := let ⟨_, _, _, e⟩ := h; e

theorem wp_region_monoL {P : Program} {id : Nat} {Q : Exit → Act → World → Prop} {a : Act} {w : World} {l : List Oper} (ps : List (Nat × (Value → World → Prop))) (hm : P.follows .mixedOrders = true) (hB : Region.lexB .any l.toArray = true)
    (hs : SteadyAll (Ext w) ps)
    (h : wpM P l.toArray (Ext w) (psiL ps) (fun a' J' => ∀ w', Ext w w' → J' w' → Q .normal a' w') l 0 a noFacts (fun _ => True)) : (Code.region id l.toArray true).wp P Q a w :=
  wp_region_mono (psiL ps) hm hB (steady_psiL hs) h
theorem wp_region_mono_tailL {P : Program} {id : Nat} {Q : Exit → Act → World → Prop} {a : Act} {w : World} {l : List Oper} (n : Nat) (ps : List (Nat × (Value → World → Prop))) (hm : P.follows .mixedOrders = true) (hB : Region.lexTailB .any l.toArray n = true)
    (hs : SteadyAll (Ext w) ps)
    (h : wpM P l.toArray (Ext w) (psiL ps) (fun a' J' => ∀ w', Ext w w' → J' w' → wpList P l.toArray Q (l.drop n) a' w') (l.take n) 0 a noFacts (fun _ => True)) : (Code.region id l.toArray true).wp P Q a w :=
  wp_region_mono_tail n (psiL ps) hm hB (steady_psiL hs) h
/-! ### the rules where no fact on fresh memory is wanted later -/
section
variable {P : Program} {ops : Array Oper} {C : World → Prop} {psi : Nat → Option (Value → World → Prop)} {L : Act → (World → Prop) → Prop} {o : Oper} {l : List Oper} {k : Nat} {a : Act} {J : World → Prop}
theorem wpM_skip0 (hL : Lax L) (hw : Region.wanted o (yielded ops a.tmps) = false) (h : wpM P ops C psi L l (k + 1) (a.put o.dst undef) noFacts J) : wpM P ops C psi L (o :: l) k a noFacts J :=
  wpM_skip hw (wpM_weak l (k + 1) _ _ _ _ _ (fun _ _ _ => trivial) (fun _ x => x) hL h)
theorem wpM_quiet0 (hL : Lax L) (hw : Region.wanted o (yielded ops a.tmps) = true) (hpsi : psi k = none) (hp : plainOp o.op = true)
    (h : ∀ K : Act → Prop, (∀ a', wpM P ops C psi L l (k + 1) a' noFacts J → K a') → o.quiet P a C K) : wpM P ops C psi L (o :: l) k a noFacts J :=
  wpM_quiet hL hw hpsi hp fun K hK => h K fun a' x => hK a' (wpM_weak l (k + 1) _ _ _ _ _ (fun _ _ _ => trivial) (fun _ x => x) hL x)
theorem wpM_val (v0 : Value) (hL : Lax L) (hw : Region.wanted o (yielded ops a.tmps) = true) (hpsi : psi k = some (isV v0))
    (h1 : ∀ w, C w → mSafe P (isV v0) o a w) (h2 : wpM P ops C psi L l (k + 1) (a.put o.dst v0) noFacts J) : wpM P ops C psi L (o :: l) k a noFacts J :=
  wpM_call _ hw hpsi (fun w hC _ => h1 w hC) fun v hv => by
    obtain rfl := isV_of hv
    exact wpM_weak l (k + 1) _ _ _ _ _ (fun _ _ _ => trivial) (fun _ x => x.1) hL h2
/-- the same where facts are kept: the value itself needs none -/
theorem wpM_valF {F : Facts} (v0 : Value) (hL : Lax L) (hw : Region.wanted o (yielded ops a.tmps) = true) (hpsi : psi k = some (isV v0))
    (h1 : ∀ w, C w → mFacts ops o F w → mSafe P (isV v0) o a w) (h2 : wpM P ops C psi L l (k + 1) (a.put o.dst v0) (F.upd o.dst fun _ => True) J) : wpM P ops C psi L (o :: l) k a F J :=
  wpM_call _ hw hpsi h1 fun v hv => by
    obtain rfl := isV_of hv
    refine wpM_weak l (k + 1) _ _ _ _ _ ?_ (fun _ x => x.1) hL h2
    intro d w
    simp only [Facts.upd]
    split
    · split
      · exact fun _ => trivial
      · exact id
    · exact id
end

/-! ### how a contract meets the goal at a call -/
section
variable {P : Program} {f : FuncId} {args : Array Value} {W : World} {g : Grow} {v0 : Value} {p : Value → World → Prop}
theorem fit_val (h : Calls P f args (wplus W g) fun e w' => e = .returned v0 ∧ Ext (wplus W g) w') :
    Calls P f args (wplus W g) fun e w'' => ∃ v, e = .returned v ∧ (∃ g1, w'' = wplus W (g.and g1)) ∧ isV v0 v w'' :=
  h.mono fun _ _ ⟨he, g1, hw⟩ => ⟨v0, he, ⟨g1, by rw [hw, plus_plus]⟩, rfl⟩
theorem fit_same (h : Calls P f args (wplus W g) fun e w' => e = .returned v0 ∧ wplus W g = w') :
    Calls P f args (wplus W g) fun e w'' => ∃ v, e = .returned v ∧ (∃ g1, w'' = wplus W (g.and g1)) ∧ isV v0 v w'' :=
  fit_val (h.mono fun _ _ ⟨he, hw⟩ => ⟨he, hw ▸ Ext.refl _⟩)
theorem fit_psi (h : Calls P f args (wplus W g) fun e w' => ∃ v, e = .returned v ∧ Ext (wplus W g) w' ∧ p v w') :
    Calls P f args (wplus W g) fun e w'' => ∃ v, e = .returned v ∧ (∃ g1, w'' = wplus W (g.and g1)) ∧ p v w'' :=
  h.mono fun _ _ ⟨v, he, ⟨g1, hw⟩, hp⟩ => ⟨v, he, ⟨g1, by rw [hw, plus_plus]⟩, hp⟩
end
attribute [go_sem] Ext mSafe mUpon
attribute [irreducible] wpM
end Go.Proofs.Ytohfnlkjdjmipaa
