/-
  Part 1 of what the proof of this law rests on.
-/
import Derived.WalkKit
import Derived.StillTail
import Derived.BigQuiet
import Derived.Laws.AppendOwn
import Derived.Laws.IdiomCopy
import Derived.Laws.NewBlocks
import Derived.Laws.Cells
import Derived.Laws.Entries
import Derived.Laws.Small
import Derived.DeepKeys
import Derived.Laws.Tables
import Derived.Great.BuildSlice
import Derived.Laws.StructEq
import Derived.ChangeKeysEq
import Derived.Laws.Append
import Derived.Laws.MakeOwn
import Derived.Laws.OwnMore
import Derived.Lib.Bytealg
import Derived.Laws.Cover3
import Derived.Laws.BytesArg
import Derived.Laws.IdiomStrings
import Derived.Lib.AppendZerosOnto
import Derived.OwnWalk
import Derived.Lib.AppendZeros
import Derived.Lib.Overlaps
import Derived.Shelf.RegionOpenPlain
import Derived.Laws.Externs
import Derived.Test.YtplihihjfjmbfaaGreatChecked
import Derived.Test.YtplihihjfjmbfaaGreatRows
import Derived.ProofKit
import Derived.OpenShut
import Derived.ShutString
import Derived.ChangeOld
import Derived.SizedLaws
import Derived.Below
import Derived.Deep.MidRow
namespace Go.Proofs.YtplihihjfjmbfaaGreat
section
open Go.RowKit

/-- what a call has added: new blocks, and draws -/
structure Grow where
  ext : Array Obj
  n : Nat
instance : Nonempty Grow := ⟨⟨#[], 0⟩⟩
/-- new blocks behind the old ones, and some draws -/
def wplus (w : World) (g : Grow) : World := { w with heap := w.heap ++ g.ext, drawn := g.n }

/-- w' is w with new blocks, and some draws -/
def Ext (w w' : World) : Prop := ∃ g : Grow, w' = wplus w g

def Grow.and (g h : Grow) : Grow := ⟨g.ext ++ h.ext, h.n⟩
def Grow.draw (g : Grow) : Grow := ⟨g.ext, g.n + 1⟩

theorem Ext.refl (w : World) : Ext w w := ⟨⟨#[], w.drawn⟩, by simp [wplus]⟩
theorem Ext.trans {a b c : World} (h : Ext a b) (k : Ext b c) : Ext a c := by
  obtain ⟨g, rfl⟩ := h
  obtain ⟨h, rfl⟩ := k
  exact ⟨g.and h, by simp [wplus, Grow.and]⟩
theorem Ext.below {w w' : World} (h : Ext w w') : Below w.heap.size w w' := by
  obtain ⟨g, rfl⟩ := h
  refine ⟨rfl, rfl, rfl, by simp [wplus], fun k hk => ?_⟩
  simp [wplus, Array.getElem?_append_left hk]
theorem Ext.of_below {w w' : World} (h : Below w.heap.size w w') : Ext w w' := by
  obtain ⟨h1, h2, h3, h4, h5⟩ := h
  refine ⟨⟨w'.heap.extract w.heap.size w'.heap.size, w'.drawn⟩, ?_⟩
  obtain ⟨heap, tape, drawn, os, output⟩ := w
  obtain ⟨heap', tape', drawn', os', output'⟩ := w'
  simp only [wplus] at *
  subst h1 h2 h3
  simp only [World.mk.injEq, and_true]
  apply Array.ext_getElem?
  intro i
  rcases Nat.lt_or_ge i heap.size with hi | hi
  · rw [h5 i hi, Array.getElem?_append_left hi]
  · rw [Array.getElem?_append_right hi]
    rcases Nat.lt_or_ge i heap'.size with hj | hj
    · rw [Array.getElem?_extract, if_pos (by omega)]
      congr 1; omega
    · rw [Array.getElem?_eq_none hj, Array.getElem?_eq_none (by simp; omega)]
theorem Ext.drew (w : World) : Ext w w.drew := ⟨⟨#[], w.drawn + 1⟩, by unfold wplus World.drew; rw [Array.append_empty]⟩
theorem Ext.alloc (w : World) (o : Obj) : Ext w (w.alloc o) := ⟨⟨#[o], w.drawn⟩, by unfold wplus World.alloc; rw [Array.append_singleton]⟩

section
variable (w : World) (g : Grow)
@[simp] theorem size_plus : (wplus w g).heap.size = w.heap.size + g.ext.size := by simp [wplus]
@[simp] theorem tape_plus : (wplus w g).tape = w.tape := rfl
theorem heap_plus {k : Nat} (h : k < w.heap.size) : (wplus w g).heap[k]? = w.heap[k]? := by
  simp [wplus, Array.getElem?_append_left h]
@[go_sem] theorem cell_plus (b i : Nat) (s) (h : b < w.heap.size) : (wplus w g).cell? ⟨b, i, s⟩ = w.cell? ⟨b, i, s⟩ :=
  World.cell?_of_block (w := w) (heap_plus w g h)
@[go_sem] theorem frozen_plus (b i : Nat) (s) (h : b < w.heap.size) : (wplus w g).frozen? ⟨b, i, s⟩ = w.frozen? ⟨b, i, s⟩ :=
  World.frozen?_of_block (w := w) (heap_plus w g h)
@[go_sem] theorem drew_plus : (wplus w g).drew = wplus w g.draw := rfl
@[go_sem] theorem plus_drew : wplus w.drew g = wplus w g := rfl
@[go_sem] theorem setCell_plus (b i : Nat) (s) (v : Value) (h : b < w.heap.size) : (wplus w g).setCell ⟨b, i, s⟩ v = wplus (w.setCell ⟨b, i, s⟩ v) g := by
  simp only [World.setCell, wplus]
  congr 1
  apply Array.ext_getElem?
  intro k
  rw [Array.getElem?_modify]
  rcases Nat.lt_or_ge k w.heap.size with hk | hk
  · rw [Array.getElem?_append_left hk, Array.getElem?_append_left (by simpa using hk), Array.getElem?_modify]
  · rw [Array.getElem?_append_right hk, Array.getElem?_append_right (by simpa using hk), if_neg (by omega)]
    simp
@[go_sem] theorem plus_plus (h : Grow) : wplus (wplus w g) h = wplus w (g.and h) := by
  simp [wplus, Grow.and]
end

/-- what is known of each temporary, in a world -/
abbrev Facts := Tmp → World → Prop
def Facts.upd (F : Facts) (dst : Option Tmp) (p : World → Prop) : Facts := fun t w => match dst with
  | some d => if t = d then p w else F t w
  | none => F t w

section
variable {P : Program} {ops : Array Oper} {md : Region.Mode} {C : World → Prop} {psi : Nat → Option (Value → World → Prop)}

def mFacts (ops : Array Oper) (o : Oper) (F : Facts) (w : World) : Prop := ∀ d ∈ o.looksAt ops, F d w

def calm (v : Value) (w : World) (r : Result Next) : Prop := r = .ok (.value v) w ∨ (r = .ok .skip w ∧ v = undef)

def mPost (P : Program) (C : World → Prop) (o : Oper) (a : Act) : Option (Value → World → Prop) → Value → World → Prop
  | none, v, _ => ∃ w0, C w0 ∧ calm v w0 ((execOp a.eval o).run P w0)
  | some p, v, w => p v w

def mUpon (P : Program) (post : Value → World → Prop) (w : World) : Result Next → Prop
  | .ok (.value v) w' => Ext w w' ∧ post v w'
  | .ok .skip w' => Ext w w' ∧ post undef w'
  | .ok (.enter f args) w' => Calls P f args w' fun e w'' => ∃ v, e = .returned v ∧ Ext w w'' ∧ post v w''
  | _ => False
def mSafe (P : Program) (post : Value → World → Prop) (o : Oper) (a : Act) (w : World) : Prop := mUpon P post w ((execOp a.eval o).run P w)

theorem mSafe.wp {post : Value → World → Prop} {o : Oper} {a : Act} {w : World} {K' : Act → World → Prop} {Q' : Exit → Act → World → Prop} (h : mSafe P post o a w)
    (k : ∀ v w', Ext w w' → post v w' → K' (a.put o.dst v) w') : o.wp P a w K' Q' := by
  unfold mSafe at h
  unfold Oper.wp
  generalize (execOp a.eval o).run P w = r at *
  cases r with
  | ok n w' =>
    cases n <;> simp only [mUpon] at h <;> simp only [Oper.upon]
    case value v => exact k _ _ h.1 h.2
    case skip => exact k _ _ h.1 h.2
    case enter f args => exact h.mono fun e w'' ⟨v, he, h1, h2⟩ => by subst he; exact k _ _ h1 h2
  | halt x w' => simp only [mUpon] at h

/-- an operation that is safe yields something -/
theorem mSafe.some {post : Value → World → Prop} {o : Oper} {a : Act} {w : World} (h : mSafe P post o a w) : ∃ v w', Ext w w' ∧ post v w' := by
  unfold mSafe at h
  generalize (execOp a.eval o).run P w = r at *
  cases r with
  | ok n w' =>
    cases n <;> simp only [mUpon] at h
    case value v => exact ⟨_, _, h.1, h.2⟩
    case skip => exact ⟨_, _, h.1, h.2⟩
    case enter f args =>
      obtain ⟨e, w'', fr, ⟨v, _, h1, h2⟩, _⟩ := h []
      exact ⟨v, w'', h1, h2⟩
  | halt x w' => simp only [mUpon] at h

/-- the walk in the order of the text: from operation k on -/
def wpM (P : Program) (ops : Array Oper) (C : World → Prop) (psi : Nat → Option (Value → World → Prop)) (L : Act → (World → Prop) → Prop) : List Oper → Nat → Act → Facts → (World → Prop) → Prop
  | [], _, a, _, J => L a J
  | o :: rest, k, a, F, J =>
    if Region.wanted o (yielded ops a.tmps) then
      (∀ w, C w → mFacts ops o F w → mSafe P (mPost P C o a (psi k)) o a w) ∧
      ∀ v, (∃ w, C w ∧ J w ∧ mPost P C o a (psi k) v w) → wpM P ops C psi L rest (k + 1) (a.put o.dst v) (F.upd o.dst fun w => mPost P C o a (psi k) v w ∧ mFacts ops o F w) (fun w => J w ∧ mPost P C o a (psi k) v w)
    else wpM P ops C psi L rest (k + 1) (a.put o.dst undef) (F.upd o.dst fun _ => True) J

variable {L : Act → (World → Prop) → Prop}

end

section
variable {P : Program} {ops : Array Oper} {C : World → Prop} {psi : Nat → Option (Value → World → Prop)} {L : Act → (World → Prop) → Prop} {o : Oper} {l : List Oper} {k : Nat} {a : Act} {J : World → Prop}
end

section
variable {P : Program} {f : FuncId} {args : Array Value} {W : World} {g : Grow} {v0 : Value} {p : Value → World → Prop}
end
attribute [go_sem] Ext mSafe mUpon
attribute [irreducible] wpM
end
section
open Go.RowKit

inductive SC where
  | lit (v : Value)
  | slc (s tag n : Nat) (xs : List (List SC))
  | ref (cs : List SC)
  | box (d off : Nat)
  | own (d : Nat)
  | row (d n : Nat)
  | win (d off n : Nat)
  | sub (d s a n : Nat)
  | elt (d s i off : Nat)
  | any
  | ex (d : Nat)
  | clo (f : Nat) (cs : List SC)

inductive SV where
  | c (x : SC)
  | agg (cs : List SC)
  | tup (vs : List (Bool × List SC))

abbrev Rd := Nat → Nat → Option Value
def Rd.le (r r' : Rd) : Prop := ∀ b o v, r b o = some v → r' b o = some v
theorem Rd.le.refl (r : Rd) : r.le r := fun _ _ _ h => h
theorem Rd.le.trans {r r' r'' : Rd} (h : r.le r') (k : r'.le r'') : r.le r'' := fun b o v x => k b o v (h b o v x)

/-- memory that is never written again holds what the shadow says -/
inductive IRel (rd : Rd) : Value → SC → Prop
  | lit (v : Value) : IRel rd v (.lit v)
  | nil (s : Nat) (a : Option Addr) (c : Nat) (hm : c ≤ maxLen) : IRel rd (.slice a 0 c) (.slc s 0 0 [])
  | slc (b o n c s : Nat) (xs : List (List SC)) (u : Nat → Nat → Value) (hn : xs.length = n) (hc : n ≤ c) (hm : c ≤ maxLen) (hs : ∀ x ∈ xs, x.length = s)
      (hr : ∀ i x j y, xs[i]? = some x → x[j]? = some y → rd b (o + i * s + j) = some (u i j))
      (hu : ∀ i x j y, xs[i]? = some x → x[j]? = some y → IRel rd (u i j) y) : IRel rd (.slice (some ⟨b, o, none⟩) n c) (.slc s 0 n xs)
  | ref (b o : Nat) (cs : List SC) (u : Nat → Value) (hr : ∀ j y, cs[j]? = some y → rd b (o + j) = some (u j))
      (hu : ∀ j y, cs[j]? = some y → IRel rd (u j) y) : IRel rd (.pointer (some ⟨b, o, none⟩)) (.ref cs)
  | slc1 (v : Value) (s n : Nat) (xs : List (List SC)) (h : IRel rd v (.slc s 0 n xs)) (he : v = .slice none 0 0 ∨ ∃ a, v = .slice (some a) n n) : IRel rd v (.slc s 1 n xs)

theorem IRel.mono {r r' : Rd} (h : r.le r') {v : Value} {x : SC} (k : IRel r v x) : IRel r' v x := by
  induction k with
  | lit v => exact .lit v
  | nil s a c hm => exact .nil s a c hm
  | slc b o n c s xs u hn hc hm hs hr _ ih => exact .slc b o n c s xs u hn hc hm hs (fun i x j y hx hy => h _ _ _ (hr i x j y hx hy)) (fun i x j y hx hy => ih i x j y hx hy)
  | ref b o cs u hr _ ih => exact .ref b o cs u (fun j y hy => h _ _ _ (hr j y hy)) (fun j y hy => ih j y hy)
  | slc1 v s n xs _ he ih => exact .slc1 v s n xs ih he

/-- the cells of memory, read as elements -/
def RowIs (rd : Rd) (s : Nat) (vals : List Value) (xs : List (List SC)) : Prop :=
  (∀ x ∈ xs, x.length = s) ∧ ∀ (i : Nat) (x : List SC) (j : Nat) (y : SC), xs[i]? = some x → x[j]? = some y → ∃ u, vals[i * s + j]? = some u ∧ IRel rd u y
theorem RowIs.mono {rd rd' : Rd} (hle : rd.le rd') {s : Nat} {us : List Value} {xs : List (List SC)} (h : RowIs rd s us xs) : RowIs rd' s us xs :=
  ⟨h.1, fun i x j y hx hy => let ⟨u, h1, h2⟩ := h.2 i x j y hx hy; ⟨u, h1, h2.mono hle⟩⟩

/-- where the resources lie -/
structure Env where
  pos : Nat → Nat × Nat
  tk : Nat → Value × Value

def vlen : Value → Nat
  | .slice _ n _ => n
  | _ => 0

/-- the tag of a slice: 0 nothing · 1 no room behind it · t + 2 the row t, if of its length -/
def Tag (g : Env) (v : Value) (n : Nat) : Nat → Prop
  | 0 => True
  | 1 => v = .slice none 0 0 ∨ ∃ a, v = .slice (some a) n n
  | t + 2 => n ≤ vlen (g.tk t).2 ∧ (n = vlen (g.tk t).2 → v = (g.tk t).2)

def CRel0 (rd : Rd) (g : Env) (v : Value) : SC → Prop
  | .box d off => v = .pointer (some ⟨(g.pos d).1, (g.pos d).2 + off, none⟩)
  | .own d => v = (g.tk d).1 ∧ ((∃ a n c, (g.tk d).1 = .slice a n c) ∨ ∃ r, (g.tk d).1 = .map (some r))
  | .row d n => ∃ a N c, (g.tk d).1 = .slice a N c ∧ v = .slice a n c ∧ n ≤ N
  | .sub d s a n => ∃ b N c x c', (g.tk d).1 = .slice b N c ∧ a + n ≤ N ∧ v = .slice x n c' ∧ n ≤ c' ∧ c' ≤ maxLen ∧ (n = 0 ∨ ∃ blk, b = some ⟨blk, 0, none⟩ ∧ x = some ⟨blk, a * s, none⟩)
  | .elt d s i off => ∃ b N c, (g.tk d).1 = .slice (some ⟨b, 0, none⟩) N c ∧ v = .pointer (some ⟨b, i * s + off, none⟩)
  | .any => True
  | .ex d => v = (g.tk d).1 ∧ (v = .slice none 0 0 ∨ ∃ a n, v = .slice (some a) n n)
  | .win d off n => ∃ a c, v = .slice a n c ∧ n ≤ c ∧ c ≤ maxLen ∧ (n = 0 ∨ a = some ⟨(g.pos d).1, (g.pos d).2 + off, none⟩)
  | .slc s tag n xs => IRel rd v (.slc s 0 n xs) ∧ Tag g v n tag
  | .lit u => IRel rd v (.lit u)
  | .ref cs => IRel rd v (.ref cs)
  | .clo _ _ => False
def CRel (rd : Rd) (g : Env) (v : Value) : SC → Prop
  | .clo f cs => ∃ caps : Array Value, v = .func (.func (f % 1000000)) (caps.extract 0 (f / 1000000)) (caps.extract (f / 1000000) caps.size) ∧ caps.size = cs.length ∧ ∀ (j : Nat) (y : SC), cs[j]? = some y → ∃ u, caps[j]? = some u ∧ CRel0 rd g u y
  | .box d off => CRel0 rd g v (.box d off)
  | .own d => CRel0 rd g v (.own d)
  | .row d n => CRel0 rd g v (.row d n)
  | .win d off n => CRel0 rd g v (.win d off n)
  | .sub d s a n => CRel0 rd g v (.sub d s a n)
  | .elt d s i off => CRel0 rd g v (.elt d s i off)
  | .any => CRel0 rd g v .any
  | .ex d => CRel0 rd g v (.ex d)
  | .slc s tag n xs => CRel0 rd g v (.slc s tag n xs)
  | .lit u => CRel0 rd g v (.lit u)
  | .ref cs => CRel0 rd g v (.ref cs)

theorem CRel0.up {rd : Rd} {g : Env} {v : Value} {x : SC} (h : CRel0 rd g v x) : CRel rd g v x := by
  cases x with
  | clo f cs => exact h.elim
  | _ => exact h
theorem CRel.down {rd : Rd} {g : Env} {v : Value} {x : SC} (hx : ∀ f cs, x ≠ .clo f cs) (h : CRel rd g v x) : CRel0 rd g v x := by
  cases x <;> first | exact h | exact absurd rfl (hx _ _)
theorem IRel.c {rd : Rd} {g : Env} {v : Value} {x : SC} (h : IRel rd v x) : CRel rd g v x := by
  cases h with
  | lit v => exact .lit v
  | nil s a c hm => exact ⟨.nil s a c hm, trivial⟩
  | slc b o n c s xs u hn hc hm hs hr hu => exact ⟨.slc b o n c s xs u hn hc hm hs hr hu, trivial⟩
  | ref b o cs u hr hu => exact .ref b o cs u hr hu
  | slc1 v s n xs h he => exact ⟨h, he⟩

def SC.say0 (p : Nat → Bool) : SC → Bool
  | .box d _ => p d
  | .own d => p d
  | .row d _ => p d
  | .win d _ _ => p d
  | .sub d _ _ _ => p d
  | .elt d _ _ _ => p d
  | .ex d => p d
  | .slc _ tag _ _ => match tag with
    | t + 2 => p t
    | _ => true
  | _ => true
def SC.say (p : Nat → Bool) : SC → Bool
  | .clo _ cs => cs.all (SC.say0 p)
  | x => x.say0 p
def SC.ren0 (f : Nat → Nat) : SC → SC
  | .box d o => .box (f d) o
  | .own d => .own (f d)
  | .row d n => .row (f d) n
  | .win d o n => .win (f d) o n
  | .sub d s a n => .sub (f d) s a n
  | .elt d s i o => .elt (f d) s i o
  | .ex d => .ex (f d)
  | .slc s tag n xs => match tag with
    | t + 2 => .slc s (f t + 2) n xs
    | k => .slc s k n xs
  | x => x
def SC.ren (f : Nat → Nat) : SC → SC
  | .clo k cs => .clo k (cs.map (SC.ren0 f))
  | x => x.ren0 f

theorem CRel0.ren {r r' : Rd} (hr : r.le r') {g g' : Env} (f : Nat → Nat) (p : Nat → Bool) (h : ∀ d, p d = true → g'.pos (f d) = g.pos d ∧ g'.tk (f d) = g.tk d) {v : Value} {x : SC} (hx : x.say0 p = true) (k : CRel0 r g v x) : CRel0 r' g' v (x.ren0 f) := by
  cases x with
  | lit u => exact k.mono hr
  | ref cs => exact k.mono hr
  | box d off => simp only [SC.say0] at hx; simp only [SC.ren0, CRel0, (h d hx).1] at *; exact k
  | own d => simp only [SC.say0] at hx; simp only [SC.ren0, CRel0, (h d hx).2] at *; exact k
  | row d n => simp only [SC.say0] at hx; simp only [SC.ren0, CRel0, (h d hx).2] at *; exact k
  | win d off n => simp only [SC.say0] at hx; simp only [SC.ren0, CRel0, (h d hx).1] at *; exact k
  | sub d s a n => simp only [SC.say0] at hx; simp only [SC.ren0, CRel0, (h d hx).2] at *; exact k
  | elt d s i off => simp only [SC.say0] at hx; simp only [SC.ren0, CRel0, (h d hx).2] at *; exact k
  | ex d => simp only [SC.say0] at hx; simp only [SC.ren0, CRel0, (h d hx).2] at *; exact k
  | any => trivial
  | slc s tag n xs =>
    rcases tag with _ | _ | t
    · exact ⟨k.1.mono hr, trivial⟩
    · exact ⟨k.1.mono hr, k.2⟩
    · simp only [SC.say0] at hx
      refine ⟨k.1.mono hr, ?_⟩
      have h2 := k.2
      simp only [Tag, (h t hx).2] at h2 ⊢
      exact h2
  | clo c cs => exact k.elim
theorem CRel.ren {r r' : Rd} (hr : r.le r') {g g' : Env} (f : Nat → Nat) (p : Nat → Bool) (h : ∀ d, p d = true → g'.pos (f d) = g.pos d ∧ g'.tk (f d) = g.tk d) {v : Value} {x : SC} (hx : x.say p = true) (k : CRel r g v x) : CRel r' g' v (x.ren f) := by
  cases x with
  | clo c cs =>
    obtain ⟨caps, h1, h2, h3⟩ := k
    refine ⟨caps, h1, by simpa using h2, fun j y hy => ?_⟩
    rw [List.getElem?_map] at hy
    obtain ⟨y0, hy0, rfl⟩ := Option.map_eq_some_iff.1 hy
    obtain ⟨u, h4, h5⟩ := h3 j y0 hy0
    exact ⟨u, h4, h5.ren hr f p h (List.all_eq_true.1 hx y0 (List.mem_of_getElem? hy0))⟩
  | lit u => exact CRel0.up (CRel0.ren hr f p h (x := .lit u) hx k)
  | ref cs => exact CRel0.up (CRel0.ren hr f p h (x := .ref cs) hx k)
  | box d off => exact CRel0.up (CRel0.ren hr f p h (x := .box d off) hx k)
  | own d => exact CRel0.up (CRel0.ren hr f p h (x := .own d) hx k)
  | row d n => exact CRel0.up (CRel0.ren hr f p h (x := .row d n) hx k)
  | win d off n => exact CRel0.up (CRel0.ren hr f p h (x := .win d off n) hx k)
  | sub d s a n => exact CRel0.up (CRel0.ren hr f p h (x := .sub d s a n) hx k)
  | elt d s i off => exact CRel0.up (CRel0.ren hr f p h (x := .elt d s i off) hx k)
  | ex d => exact CRel0.up (CRel0.ren hr f p h (x := .ex d) hx k)
  | any => trivial
  | slc s tag n xs => exact CRel0.up (CRel0.ren hr f p h (x := .slc s tag n xs) hx k)
theorem ren0_id (x : SC) : x.ren0 (fun d => d) = x := by
  cases x <;> simp only [SC.ren0]
  rename_i s tag n xs
  rcases tag with _ | _ | t <;> rfl
theorem ren_id (x : SC) : x.ren (fun d => d) = x := by
  cases x with
  | clo c cs => simp only [SC.ren]; congr 1; exact (List.map_congr_left (fun y _ => ren0_id y)).trans (List.map_id _)
  | lit v => rfl
  | slc a b c d => exact ren0_id (.slc a b c d)
  | ref a => rfl
  | box a b => rfl
  | own a => rfl
  | row a b => rfl
  | win a b c => rfl
  | sub a b c d => rfl
  | elt a b c d => rfl
  | any => rfl
  | ex a => rfl
theorem CRel.env {r r' : Rd} (hr : r.le r') {g g' : Env} (p : Nat → Bool) (h : ∀ d, p d = true → g'.pos d = g.pos d ∧ g'.tk d = g.tk d) {v : Value} {x : SC} (hx : x.say p = true) (k : CRel r g v x) : CRel r' g' v x := by
  have := k.ren hr (fun d => d) p h hx
  rwa [ren_id] at this
theorem SC.say0_true (x : SC) : x.say0 (fun _ => true) = true := by
  cases x <;> simp only [SC.say0]
  rename_i s tag n xs
  rcases tag with _ | _ | t <;> rfl
theorem SC.say_true (x : SC) : x.say (fun _ => true) = true := by
  cases x with
  | clo f cs => exact List.all_eq_true.2 (fun y _ => SC.say0_true y)
  | lit v => exact SC.say0_true (.lit v)
  | slc a b c d => exact SC.say0_true (.slc a b c d)
  | ref a => exact SC.say0_true (.ref a)
  | box a b => exact SC.say0_true (.box a b)
  | own a => exact SC.say0_true (.own a)
  | row a b => exact SC.say0_true (.row a b)
  | win a b c => exact SC.say0_true (.win a b c)
  | sub a b c d => exact SC.say0_true (.sub a b c d)
  | elt a b c d => exact SC.say0_true (.elt a b c d)
  | ex a => exact SC.say0_true (.ex a)
  | any => rfl
theorem CRel.mono {r r' : Rd} (h : r.le r') {g : Env} {v : Value} {x : SC} (k : CRel r g v x) : CRel r' g v x := k.env h (fun _ => true) (fun _ _ => ⟨rfl, rfl⟩) x.say_true

def CsRel (rd : Rd) (g : Env) (vs : Array Value) (cs : List SC) : Prop := vs.size = cs.length ∧ ∀ (j : Nat) (y : SC), cs[j]? = some y → ∃ u, vs[j]? = some u ∧ CRel rd g u y
/-- one result: a cell, or a struct or array -/
def FRel (rd : Rd) (g : Env) (v : Value) (x : Bool × List SC) : Prop :=
  if x.1 then ∃ vs, v = .agg vs ∧ CsRel rd g vs x.2 else ∃ y, x.2 = [y] ∧ CRel rd g v y
def VRel (rd : Rd) (g : Env) (v : Value) : SV → Prop
  | .c x => CRel rd g v x
  | .agg cs => ∃ vs, v = .agg vs ∧ CsRel rd g vs cs
  | .tup xs => ∃ vs : Array Value, v = .tuple vs ∧ vs.size = xs.length ∧ ∀ (j : Nat) (x : Bool × List SC), xs[j]? = some x → ∃ u, vs[j]? = some u ∧ FRel rd g u x
def SV.every (p : SC → Bool) : SV → Bool
  | .c x => p x
  | .agg cs => cs.all p
  | .tup vs => vs.all fun x => x.2.all p
def SV.map (m : SC → SC) : SV → SV
  | .c x => .c (m x)
  | .agg cs => .agg (cs.map m)
  | .tup vs => .tup (vs.map fun x => (x.1, x.2.map m))
theorem CsRel.imp {rd rd' : Rd} {g g' : Env} {p : SC → Bool} {m : SC → SC} (hp : ∀ v x, p x = true → CRel rd g v x → CRel rd' g' v (m x)) {vs : Array Value} {cs : List SC} (hc : cs.all p = true) (k : CsRel rd g vs cs) : CsRel rd' g' vs (cs.map m) := by
  refine ⟨by simpa using k.1, fun j y hy => ?_⟩
  rw [List.getElem?_map] at hy
  obtain ⟨y0, hy0, rfl⟩ := Option.map_eq_some_iff.1 hy
  obtain ⟨u, h1, h2⟩ := k.2 j y0 hy0
  exact ⟨u, h1, hp _ _ (List.all_eq_true.1 hc y0 (List.mem_of_getElem? hy0)) h2⟩
theorem VRel.imp {rd rd' : Rd} {g g' : Env} {p : SC → Bool} {m : SC → SC} (hp : ∀ v x, p x = true → CRel rd g v x → CRel rd' g' v (m x)) {v : Value} {x : SV} (hx : x.every p = true) (h : VRel rd g v x) : VRel rd' g' v (x.map m) := by
  cases x with
  | c x => exact hp _ _ hx h
  | agg cs => obtain ⟨vs, h1, h2⟩ := h; exact ⟨vs, h1, h2.imp hp hx⟩
  | tup vs =>
    obtain ⟨us, h1, h2, h3⟩ := h
    refine ⟨us, h1, by simpa using h2, fun j x hj => ?_⟩
    rw [List.getElem?_map] at hj
    obtain ⟨x0, hx0, rfl⟩ := Option.map_eq_some_iff.1 hj
    obtain ⟨u, h4, h5⟩ := h3 j x0 hx0
    refine ⟨u, h4, ?_⟩
    have hc := List.all_eq_true.1 hx x0 (List.mem_of_getElem? hx0)
    unfold FRel at *
    simp only
    split
    · rename_i hb; rw [if_pos hb] at h5; obtain ⟨vs, h6, h7⟩ := h5; exact ⟨vs, h6, h7.imp hp hc⟩
    · rename_i hb; rw [if_neg hb] at h5
      obtain ⟨y, h6, h7⟩ := h5
      rw [h6] at hc
      exact ⟨m y, by simp [h6], hp _ _ (by simpa using hc) h7⟩
theorem SV.map_id (x : SV) : x.map (fun y => y) = x := by
  cases x <;> simp [SV.map]
theorem VRel.imp1 {rd rd' : Rd} {g g' : Env} {p : SC → Bool} (hp : ∀ v x, p x = true → CRel rd g v x → CRel rd' g' v x) {v : Value} {x : SV} (hx : x.every p = true) (h : VRel rd g v x) : VRel rd' g' v x := by
  have := h.imp (m := fun y => y) hp hx
  rwa [SV.map_id] at this
theorem CsRel.imp1 {rd rd' : Rd} {g g' : Env} {p : SC → Bool} (hp : ∀ v x, p x = true → CRel rd g v x → CRel rd' g' v x) {vs : Array Value} {cs : List SC} (hc : cs.all p = true) (k : CsRel rd g vs cs) : CsRel rd' g' vs cs := by
  have := k.imp (m := fun y => y) hp hc
  rwa [List.map_id'] at this
theorem SV.every_true (x : SV) : x.every (fun _ => true) = true := by cases x <;> simp [SV.every]
theorem VRel.mono {r r' : Rd} (h : r.le r') {g : Env} {v : Value} {x : SV} (k : VRel r g v x) : VRel r' g v x := k.imp1 (p := fun _ => true) (fun _ _ _ k => k.mono h) x.every_true
theorem CsRel.mono {r r' : Rd} (h : r.le r') {g : Env} {vs : Array Value} {cs : List SC} (k : CsRel r g vs cs) : CsRel r' g vs cs := k.imp1 (p := fun _ => true) (fun _ _ _ k => k.mono h) (by simp)

inductive Res where
  | box (cs : List SC)
  | row (e s n : Nat) (xs : List (List SC))
  | spare (e s n : Nat)
  | mp (L : List (Value × Value))
def Res.map (m : SC → SC) : Res → Res
  | .box cs => .box (cs.map m)
  | r => r
def Res.every (p : SC → Bool) : Res → Bool
  | .box cs => cs.all p
  | _ => true
def Res.isBox : Res → Bool
  | .box _ => true
  | _ => false
abbrev Hp := List (Nat × Res)
structure St where
  tmps : List (Nat × SV)
  hp : Hp

def look {α : Type} : List (Nat × α) → Nat → Option α
  | [], _ => none
  | (k, x) :: l, n => if k = n then some x else look l n
def drop1 {α : Type} (l : List (Nat × α)) (n : Nat) : List (Nat × α) := l.filter fun p => p.1 != n
theorem look_drop1 {α : Type} (n : Nat) : ∀ (l : List (Nat × α)) (m : Nat), look (drop1 l n) m = if m = n then none else look l m
  | [], m => by simp [drop1, look]
  | (k, x) :: l, m => by
    have ih := look_drop1 n l m
    unfold drop1 at *
    simp only [List.filter_cons]
    by_cases hk : k = n
    · subst hk
      simp only [bne_self_eq_false, Bool.false_eq_true, if_false, ih, look]
      by_cases hm : m = k
      · simp [hm]
      · rw [if_neg hm, if_neg hm, if_neg (Ne.symm hm)]
    · simp only [bne_iff_ne, ne_eq, hk, not_false_eq_true, if_true, look, ih]
      by_cases hm : k = m
      · subst hm; simp [hk]
      · simp [hm]
theorem look_cons {α : Type} (n : Nat) (x : α) (l : List (Nat × α)) (m : Nat) : look ((n, x) :: l) m = if n = m then some x else look l m := rfl
theorem look_mem {α : Type} {l : List (Nat × α)} {t : Nat} {x : α} (h : look l t = some x) : (t, x) ∈ l := by
  induction l with
  | nil => simp [look] at h
  | cons p l ih =>
    obtain ⟨k, y⟩ := p
    rw [look_cons] at h
    split at h
    · rename_i hk; subst hk; cases h; simp
    · exact List.mem_cons_of_mem _ (ih h)
theorem look_map {α β : Type} (f : α → β) : ∀ (l : List (Nat × α)) (m : Nat), look (l.map fun p => (p.1, f p.2)) m = (look l m).map f
  | [], m => rfl
  | (k, x) :: l, m => by
    simp only [List.map_cons, look_cons]
    split
    · rfl
    · exact look_map f l m
/-- a name is given a value: in its place, or in front -/
def setL {α : Type} (n : Nat) (x : α) : List (Nat × α) → List (Nat × α)
  | [] => [(n, x)]
  | (k, y) :: l => if k = n then (n, x) :: l else (k, y) :: setL n x l
theorem look_setL {α : Type} (n : Nat) (x : α) : ∀ (l : List (Nat × α)) (m : Nat), look (setL n x l) m = if n = m then some x else look l m
  | [], m => rfl
  | (k, y) :: l, m => by
    simp only [setL]
    split
    · rename_i hk
      subst hk
      simp only [look_cons]
      split <;> rfl
    · rename_i hk
      simp only [look_cons, look_setL n x l m]
      by_cases h1 : k = m
      · subst h1; rw [if_pos rfl, if_pos rfl, if_neg (Ne.symm hk)]
      · rw [if_neg h1, if_neg h1]

def St.put (s : St) (d : Option Tmp) (v : SV) : St := match d with
  | some d => { s with tmps := setL d v s.tmps }
  | none => s
def St.setR (s : St) (d : Nat) (r : Res) : St := { s with hp := setL d r s.hp }
def St.lookB (s : St) (d : Nat) : Option (List SC) := match look s.hp d with
  | some (.box cs) => some cs
  | _ => none
theorem lookB_some {s : St} {d : Nat} {cs : List SC} (h : s.lookB d = some cs) : look s.hp d = some (.box cs) := by
  unfold St.lookB at h
  split at h
  · rename_i cs' hl; cases h; exact hl
  · cases h

/-- no cell of the row is frozen -/
def unfrozen (fz : Nat × Nat) (n : Nat) : Prop := ∀ j, j < n → ¬ (fz.1 ≤ j ∧ j < fz.2)
/-- the slice value owns the cells; a mark may lie behind its row -/
def _root_.Go.World.ownsRowM (w : World) (e : TypeId) (size : Nat) (v : Value) (n : Nat) (xs : List Value) : Prop :=
  xs.length = n * size ∧
  ((v = .slice none 0 0 ∧ n = 0) ∨
   ∃ g cap cur fz, v = .slice (some ⟨g, 0, none⟩) n cap ∧ w.heap[g]? = some (.cells cur e fz) ∧ unfrozen fz cur.size ∧ n ≤ cap ∧ cap ≤ maxLen ∧ cur.size = cap * size ∧ cur.toList.take (n * size) = xs)
theorem _root_.Go.World.ownsRow.m {w : World} {e : TypeId} {s n : Nat} {v : Value} {xs : List Value} (h : w.ownsRow 0 e s v n xs) : w.ownsRowM e s v n xs := by
  refine ⟨h.1, ?_⟩
  rcases h.2 with hn | ⟨g, cap, cur, hv, hb, hg, rest⟩
  · exact .inl hn
  · exact .inr ⟨g, cap, cur, (0, 0), hv, hg, fun j _ q => Nat.not_lt_zero _ q.2, rest⟩
theorem _root_.Go.World.ownsRowM.lt {w : World} {e : TypeId} {s n : Nat} {v : Value} {xs : List Value} (h : w.ownsRowM e s v n xs) (k : Nat) (hk : v.ownBlock = some k) : k < w.heap.size := by
  rcases h.2 with ⟨rfl, _⟩ | ⟨g, cap, cur, fz, rfl, hg, _⟩
  · simp [Value.ownBlock] at hk
  · simp [Value.ownBlock] at hk
    subst hk
    exact (Array.getElem?_eq_some_iff.1 hg).1
theorem _root_.Go.World.ownsRowM.cells {w : World} {e : TypeId} {s n : Nat} {v : Value} {xs : List Value} (h : w.ownsRowM e s v n xs) {g : Nat} (hg : v.ownBlock = some g) : ∀ j u, xs[j]? = some u → w.cell? ((⟨g, 0, none⟩ : Addr).add j) = some u := by
  intro j u hu
  rcases h.2 with ⟨rfl, _⟩ | ⟨g', cap, cur, fz, rfl, hgg, _, _, _, _, htake⟩
  · simp [Value.ownBlock] at hg
  · simp [Value.ownBlock] at hg
    subst hg
    have hadd : (⟨g', 0, none⟩ : Addr).add j = ⟨g', j, none⟩ := by unfold Addr.add; split <;> simp_all
    rw [hadd, cell_of_row w g' j cur e fz hgg]
    rw [← htake, List.getElem?_take] at hu
    split at hu
    · simpa using hu
    · cases hu
/-- the entries of a map, in their order -/
def MapIs (es : Array MapEntry) (L : List (Value × Value)) : Prop := (es.toList.map fun e => (e.key, e.val)) = L
def Foot (g : Env) (d : Nat) : Res → Nat → Nat → Prop
  | .box cs, b, o => b = (g.pos d).1 ∧ (g.pos d).2 ≤ o ∧ o < (g.pos d).2 + cs.length
  | .row _ _ _ _, b, _ => (g.tk d).1.ownBlock = some b
  | .spare _ s n, b, o => (g.tk d).2.ownBlock = some b ∧ n * s ≤ o
  | .mp _, b, _ => (g.tk d).1 = .map (some b)
def InFoot (g : Env) (h : Hp) (b o : Nat) : Prop := ∃ d r, look h d = some r ∧ Foot g d r b o
def boxAt (rd : Rd) (g : Env) (w : World) (p : Nat × Nat) (cs : List SC) : Prop :=
  ∀ (j : Nat) (y : SC), cs[j]? = some y → ∃ u, w.cell? ⟨p.1, p.2 + j, none⟩ = some u ∧ w.frozen? ⟨p.1, p.2 + j, none⟩ = false ∧ CRel rd g u y
def Holds (rd : Rd) (g : Env) (w : World) (d : Nat) : Res → Prop
  | .box cs => boxAt rd g w (g.pos d) cs
  | .row e s n xs => ∃ us, w.ownsRow 0 e s (g.tk d).1 n us ∧ xs.length = n ∧ RowIs rd s us xs
  | .spare e s n => ∃ us, w.ownsRowM e s (g.tk d).2 n us
  | .mp L => ∃ r es c, (g.tk d).1 = .map (some r) ∧ w.heap[r]? = some (.map es c) ∧ MapIs es L
theorem foot_map (g : Env) (d : Nat) (m : SC → SC) (r : Res) : Foot g d (r.map m) = Foot g d r := by
  funext b o
  cases r <;> simp [Foot, Res.map]
theorem foot_env {g g' : Env} {d : Nat} (h : g'.pos d = g.pos d ∧ g'.tk d = g.tk d) (r : Res) : Foot g' d r = Foot g d r := by
  funext b o
  cases r <;> simp only [Foot, h.1, h.2]
theorem Holds.lt {rd : Rd} {g : Env} {w : World} {d : Nat} {r : Res} (h : Holds rd g w d r) {b o : Nat} (hf : Foot g d r b o) : b < w.heap.size := by
  cases r with
  | box cs =>
    obtain ⟨rfl, h2, h3⟩ := hf
    have hlt : o - (g.pos d).2 < cs.length := by omega
    obtain ⟨u, k1, _⟩ := h _ _ (List.getElem?_eq_getElem hlt)
    exact World.block_lt_of_cell? w _ k1
  | row e s n xs =>
    obtain ⟨us, h1, _⟩ := h
    exact (h1.lt b hf).2
  | spare e s n =>
    obtain ⟨us, h1⟩ := h
    exact h1.lt b hf.1
  | mp L =>
    obtain ⟨r, es, c, h1, h2, _⟩ := h
    simp only [Foot] at hf
    rw [h1] at hf
    cases hf
    exact (Array.getElem?_eq_some_iff.1 h2).1

/-- blocks alike, but for cells that may be written -/
def Alike1 (m : Nat → Prop) (o o' : Option Obj) : Prop :=
  o' = o ∨ (∃ c c' e f, o = some (.cells c e f) ∧ o' = some (.cells c' e f) ∧ c'.size = c.size ∧ ∀ j, ¬ m j → c'[j]? = c[j]?) ∨
  (m 0 ∧ ∃ es k es' k', o = some (.map es k) ∧ o' = some (.map es' k'))
structure Keep (w0 : World) (may : Nat → Nat → Prop) (w : World) : Prop where
  os : w.os = w0.os
  tape : w.tape = w0.tape
  output : w.output = w0.output
  size : w0.heap.size ≤ w.heap.size
  block : ∀ b, b < w0.heap.size → Alike1 (may b) w0.heap[b]? w.heap[b]?
theorem Alike1.trans {m m' : Nat → Prop} {o1 o2 o3 : Option Obj} (h : Alike1 m o1 o2) (k : Alike1 m' o2 o3) (hm : ∀ j, m' j → m j) : Alike1 m o1 o3 := by
  rcases h with rfl | ⟨c, c', e, f, rfl, rfl, h3, h4⟩ | ⟨h0, es, q, es', q', rfl, rfl⟩
  · rcases k with rfl | ⟨c, c', e, f, rfl, rfl, h3, h4⟩ | ⟨h0, es, q, es', q', rfl, rfl⟩
    · exact .inl rfl
    · exact .inr (.inl ⟨c, c', e, f, rfl, rfl, h3, fun j hj => h4 j fun h => hj (hm j h)⟩)
    · exact .inr (.inr ⟨hm 0 h0, es, q, es', q', rfl, rfl⟩)
  · rcases k with rfl | ⟨d, d', e', f', h1, rfl, h5, h6⟩ | ⟨_, es, q, es', q', h1, _⟩
    · exact .inr (.inl ⟨c, c', e, f, rfl, rfl, h3, h4⟩)
    · cases h1
      exact .inr (.inl ⟨c, d', e, f, rfl, rfl, h5.trans h3, fun j hj => (h6 j fun h => hj (hm j h)).trans (h4 j hj)⟩)
    · cases h1
  · rcases k with rfl | ⟨d, d', e', f', h1, rfl, h5, h6⟩ | ⟨_, es2, q2, es3, q3, _, rfl⟩
    · exact .inr (.inr ⟨h0, es, q, es', q', rfl, rfl⟩)
    · cases h1
    · exact .inr (.inr ⟨h0, es, q, es3, q3, rfl, rfl⟩)
theorem Keep.refl (w : World) (may : Nat → Nat → Prop) : Keep w may w := ⟨rfl, rfl, rfl, Nat.le_refl _, fun _ _ => .inl rfl⟩
theorem Keep.trans {w0 w w' : World} {may may' : Nat → Nat → Prop} (h : Keep w0 may w) (k : Keep w may' w') (hm : ∀ b o, b < w0.heap.size → may' b o → may b o) : Keep w0 may w' :=
  ⟨k.os.trans h.os, k.tape.trans h.tape, k.output.trans h.output, Nat.le_trans h.size k.size, fun b hb => (h.block b hb).trans (k.block b (Nat.lt_of_lt_of_le hb h.size)) fun j => hm b j hb⟩
theorem Keep.weak {w w' : World} {may may' : Nat → Nat → Prop} (h : Keep w may w') (hm : ∀ b o, may b o → may' b o) : Keep w may' w' := (Keep.refl w may').trans h (fun b o _ => hm b o)
theorem Keep.of_ext {w w' : World} (h : Ext w w') : Keep w (fun _ _ => False) w' := by
  have hb := h.below
  exact ⟨hb.os, hb.tape, hb.output, hb.size, fun b hb' => .inl (hb.block b hb')⟩
theorem Keep.ext {w w' : World} (h : Keep w (fun _ _ => False) w') : Ext w w' := by
  refine Ext.of_below ⟨h.os, h.tape, h.output, h.size, fun b hb => ?_⟩
  rcases h.block b hb with e | ⟨c, c', e, f, h1, h2, h3, h4⟩ | ⟨h0, _⟩
  · exact e
  · rw [h1, h2]
    congr 2
    exact Array.ext_getElem? (fun j => h4 j (by simp))
  · exact h0.elim
theorem Keep.frozen {w w' : World} {may : Nat → Nat → Prop} (h : Keep w may w') {b o : Nat} (hb : b < w.heap.size) : w'.frozen? ⟨b, o, none⟩ = w.frozen? ⟨b, o, none⟩ := by
  unfold World.frozen?
  simp only
  rcases h.block b hb with e | ⟨c, c', e, f, h1, h2, h3, h4⟩ | ⟨_, es, q, es', q', h1, h2⟩
  · rw [e]
  · rw [h1, h2]
  · rw [h1, h2]
theorem Keep.alloc (w : World) (o : Obj) (may : Nat → Nat → Prop) : Keep w may (w.alloc o) :=
  ⟨rfl, rfl, rfl, by simp, fun b hb => .inl (heap_alloc_old w o hb)⟩
theorem Keep.setCell (w : World) (b o : Nat) (v : Value) : Keep w (fun b' o' => b' = b ∧ o' = o) (w.setCell ⟨b, o, none⟩ v) := by
  refine ⟨rfl, rfl, rfl, by simp [World.setCell], fun b' hb' => ?_⟩
  by_cases hbb : b' = b
  · subst hbb
    simp only [World.setCell, Array.getElem?_modify, if_true]
    cases hx : w.heap[b']? with
    | none => exact .inl (by simp)
    | some x =>
      cases x with
      | cells c e f => exact .inr (.inl ⟨c, c.setIfInBounds o v, e, f, rfl, by simp, by simp, fun j hj => by simp at hj; simp [Ne.symm hj]⟩)
      | _ => exact .inl (by simp)
  · refine .inl ?_
    simp only [World.setCell, Array.getElem?_modify]
    rw [if_neg (Ne.symm hbb)]
theorem Keep.setCells (b : Nat) : ∀ (vs : List Value) (o : Nat) (w : World), Keep w (fun b' o' => b' = b ∧ o ≤ o' ∧ o' < o + vs.length) (w.setCells b o vs)
  | [], _, w => Keep.refl _ _
  | v :: r, o, w => by
    have h1 := Keep.setCell w b o v
    have h2 := Keep.setCells b r (o + 1) (w.setCell ⟨b, o, none⟩ v)
    have h1' : Keep w (fun b' o' => b' = b ∧ o ≤ o' ∧ o' < o + (v :: r).length) (w.setCell ⟨b, o, none⟩ v) :=
      h1.weak (fun b' o' h => ⟨h.1, by simp only [List.length_cons]; omega⟩)
    exact h1'.trans h2 (fun b' o' _ h => ⟨h.1, by simp only [List.length_cons]; omega⟩)
theorem Keep.cell {w w' : World} {may : Nat → Nat → Prop} (h : Keep w may w') {b o : Nat} {v : Value} (hc : w.cell? ⟨b, o, none⟩ = some v) (hm : ¬ may b o) : w'.cell? ⟨b, o, none⟩ = some v := by
  have hlt := World.block_lt_of_cell? w _ hc
  unfold World.cell? at hc ⊢
  simp only at hc hlt ⊢
  rcases h.block b hlt with e | ⟨c, c', e, f, h1, h2, h3, h4⟩ | ⟨_, es, q, es', q', h1, h2⟩
  rotate_left 2
  · rw [h1] at hc
    simp at hc
  · rw [e]; exact hc
  · rw [h1] at hc
    rw [h2]
    simp only [Option.isSome_none, Bool.false_eq_true, if_false] at hc ⊢
    rw [h4 o hm]
    exact hc
theorem Keep.whole {w w' : World} {may : Nat → Nat → Prop} (h : Keep w may w') {b : Nat} (hb : b < w.heap.size) (hm : ∀ o, ¬ may b o) : w'.heap[b]? = w.heap[b]? := by
  rcases h.block b hb with e | ⟨c, c', e, f, h1, h2, h3, h4⟩ | ⟨h0, _⟩
  · exact e
  · rw [h1, h2]
    congr 2
    exact Array.ext_getElem? (fun j => h4 j (hm j))
  · exact absurd h0 (hm 0)

/-- where a call began: its world, what it may write there, and what it may rely on -/
structure Ctx where
  w0 : World
  may : Nat → Nat → Prop
  rd0 : Rd
  pos0 : Nat → Nat × Nat
  gh : Nat → Option Value
  ok : ∀ b o v, rd0 b o = some v → w0.cell? ⟨b, o, none⟩ = some v ∧ ¬ may b o

open Classical in
noncomputable def rdOf (K : Ctx) (g : Env) (h : Hp) (w : World) : Rd := fun b o => if InFoot g h b o then none else if b < K.w0.heap.size ∧ ¬ K.may b o then K.rd0 b o else w.cell? ⟨b, o, none⟩

structure HG (K : Ctx) (g : Env) (w : World) (h : Hp) : Prop where
  keep : Keep K.w0 K.may w
  holds : ∀ d r, look h d = some r → Holds (rdOf K g h w) g w d r
  may : ∀ b o, InFoot g h b o → b < K.w0.heap.size → K.may b o
  dis : ∀ d d' r r' b o, d ≠ d' → look h d = some r → look h d' = some r' → Foot g d r b o → ¬ Foot g d' r' b o
  fix : ∀ d cs, 1000000 ≤ d → look h d = some (.box cs) → g.pos d = K.pos0 d
  new : ∀ d r, look h d = some r → r.isBox = false → ∀ b o, Foot g d r b o → K.w0.heap.size ≤ b ∨ K.may b o

/-- a slot of the run; from 2000000 on, a slot of the caller that waits -/
def slotAt (K : Ctx) (a : Act) (t : Nat) : Option Value := if t < 2000000 then a.tmps[t]? else K.gh (t - 2000000)
structure RG (K : Ctx) (g : Env) (n : Nat) (a : Act) (w : World) (s : St) : Prop where
  defers : a.defers = []
  size : a.tmps.size = n
  few : n ≤ 2000000
  hg : HG K g w s.hp
  tmps : ∀ t v, look s.tmps t = some v → ∃ u, slotAt K a t = some u ∧ VRel (rdOf K g s.hp w) g u v
def R (K : Ctx) (n : Nat) (a : Act) (w : World) (s : St) : Prop := ∃ g, RG K g n a w s

theorem rdOf_le {K : Ctx} (g : Env) (h : Hp) {w : World} (hk : Keep K.w0 K.may w) : ∀ b o v, rdOf K g h w b o = some v → w.cell? ⟨b, o, none⟩ = some v := by
  intro b o v hv
  unfold rdOf at hv
  split at hv
  · cases hv
  · split at hv
    · exact hk.cell (K.ok b o v hv).1 (K.ok b o v hv).2
    · exact hv
theorem rdOf_none {K : Ctx} {g : Env} {h : Hp} {w : World} {b o : Nat} (hf : InFoot g h b o) : rdOf K g h w b o = none := by
  unfold rdOf; rw [if_pos hf]

section
variable {K : Ctx} {g g' : Env} {w w' : World} {h h' : Hp}
theorem rd_step (k : HG K g w h) (t : Nat → Bool) (he : ∀ d r, t d = false → look h d = some r → g'.pos d = g.pos d ∧ g'.tk d = g.tk d)
    (hl : ∀ d r', t d = false → look h' d = some r' → ∃ r m, look h d = some r ∧ r' = r.map m)
    (hk : Keep w (fun b o => ∃ d r, t d = true ∧ look h d = some r ∧ Foot g d r b o) w')
    (hf : ∀ d r b o, t d = true → look h' d = some r → Foot g' d r b o → (∃ e r0, t e = true ∧ look h e = some r0 ∧ Foot g e r0 b o) ∨ w.heap.size ≤ b) : (rdOf K g h w).le (rdOf K g' h' w') := by
  intro b o v hv
  have hc := rdOf_le g h k.keep b o v hv
  have hlt := World.block_lt_of_cell? w _ hc
  unfold rdOf at hv ⊢
  split at hv
  · cases hv
  · rename_i hx
    rw [if_neg]
    · split at hv
      · rename_i hb; rw [if_pos hb]; exact hv
      · rename_i hb
        rw [if_neg hb]
        exact hk.cell hc (fun ⟨d, r, _, h1, h2⟩ => hx ⟨d, r, h1, h2⟩)
    · rintro ⟨d, r, h1, h2⟩
      cases ht : t d with
      | true =>
        rcases hf d r b o ht h1 h2 with ⟨e, r0, _, h3, h4⟩ | h3
        · exact hx ⟨e, r0, h3, h4⟩
        · simp only at hlt; omega
      | false =>
        obtain ⟨r0, m, h3, rfl⟩ := hl d r ht h1
        rw [foot_map, foot_env (he d r0 ht h3)] at h2
        exact hx ⟨d, r0, h3, h2⟩

theorem HG.step (k : HG K g w h) (t : Nat → Bool) (m : SC → SC) (ok : SC → Bool) (he : ∀ d r, t d = false → look h d = some r → g'.pos d = g.pos d ∧ g'.tk d = g.tk d)
    (hl : ∀ d r', t d = false → look h' d = some r' → ∃ r, look h d = some r ∧ r' = r.map m ∧ r.every ok = true)
    (hk : Keep w (fun b o => ∃ d r, t d = true ∧ look h d = some r ∧ Foot g d r b o) w')
    (hf : ∀ d r b o, t d = true → look h' d = some r → Foot g' d r b o → (∃ e r0, t e = true ∧ look h e = some r0 ∧ Foot g e r0 b o) ∨ w.heap.size ≤ b)
    (hd : ∀ d d' r r' b o, t d = true → t d' = true → d ≠ d' → look h' d = some r → look h' d' = some r' → Foot g' d r b o → ¬ Foot g' d' r' b o)
    (hm : ∀ u x, ok x = true → CRel (rdOf K g h w) g u x → CRel (rdOf K g' h' w') g' u (m x))
    (hh : ∀ d r, t d = true → look h' d = some r → Holds (rdOf K g' h' w') g' w' d r)
    (hfix : ∀ d cs, t d = true → 1000000 ≤ d → look h' d = some (.box cs) → g'.pos d = K.pos0 d)
    (hnew : ∀ d r, t d = true → look h' d = some r → r.isBox = false → ∀ b o, Foot g' d r b o → K.w0.heap.size ≤ b ∨ K.may b o) : HG K g' w' h' := by
  have hl' : ∀ d r', t d = false → look h' d = some r' → ∃ r m, look h d = some r ∧ r' = r.map m := fun d r' h1 h2 => let ⟨r, h3, h4, _⟩ := hl d r' h1 h2; ⟨r, m, h3, h4⟩
  have hle := rd_step (h' := h') k t he hl' hk hf
  -- an untouched name's footprint is not written
  have hfree : ∀ d r b o, t d = false → look h d = some r → Foot g d r b o → ¬ ∃ e r', t e = true ∧ look h e = some r' ∧ Foot g e r' b o := by
    rintro d r b o ht h1 h2 ⟨e, r', h3, h4, h5⟩
    exact k.dis d e r r' b o (fun hh => by subst hh; rw [ht] at h3; cases h3) h1 h4 h2 h5
  refine ⟨k.keep.trans hk (fun b o hb ⟨d, r, _, h1, h2⟩ => k.may b o ⟨d, r, h1, h2⟩ hb), fun d r' hd' => ?_, ?_, ?_, ?_, ?_⟩
  · cases ht : t d with
    | true => exact hh d r' ht hd'
    | false =>
      obtain ⟨r, h1, rfl, h2⟩ := hl d r' ht hd'
      have henv := he d r ht h1
      have hold := k.holds d r h1
      cases r with
      | box cs =>
        intro j y hy
        rw [List.getElem?_map] at hy
        obtain ⟨y0, hy0, rfl⟩ := Option.map_eq_some_iff.1 hy
        obtain ⟨u, k1, k2, k3⟩ := hold j y0 hy0
        have hj := (List.getElem?_eq_some_iff.1 hy0).1
        rw [henv.1]
        refine ⟨u, hk.cell k1 (hfree d _ _ _ ht h1 ⟨rfl, by omega, by omega⟩), by rw [hk.frozen (World.block_lt_of_cell? w _ k1)]; exact k2, hm u y0 (List.all_eq_true.1 h2 y0 (List.mem_of_getElem? hy0)) k3⟩
      | row e s n xs =>
        obtain ⟨us, h3, h4, h4'⟩ := hold
        refine ⟨us, ?_, h4, h4'.mono hle⟩
        rw [henv.2]
        refine ⟨h3.1, ?_⟩
        rcases h3.2 with hn | ⟨gb, cap, cur, hv, hb, hgg, rest⟩
        · exact .inl hn
        · refine .inr ⟨gb, cap, cur, hv, hb, ?_, rest⟩
          rw [hk.whole (Array.getElem?_eq_some_iff.1 hgg).1 (fun o => hfree d _ gb o ht h1 (by simp only [Foot]; rw [hv]; rfl))]
          exact hgg
      | spare e s n =>
        obtain ⟨us, h3⟩ := hold
        simp only [Res.map, Holds, henv.2]
        rcases h3.2 with ⟨hn, h0⟩ | ⟨gb, cap, cur, fz, hv, hgg, huf, r1, r2, r3, r4⟩
        · exact ⟨us, h3.1, .inl ⟨hn, h0⟩⟩
        · rcases hk.block gb (Array.getElem?_eq_some_iff.1 hgg).1 with e' | ⟨c, c', e', f, q1, q2, q3, q4⟩ | ⟨_, es, q, es', q', q1, _⟩
          rotate_left 2
          · rw [hgg] at q1
            cases q1
          · exact ⟨us, h3.1, .inr ⟨gb, cap, cur, fz, hv, by rw [e']; exact hgg, huf, r1, r2, r3, r4⟩⟩
          · rw [hgg] at q1
            cases q1
            refine ⟨c'.toList.take (n * s), ?_, .inr ⟨gb, cap, c', _, hv, q2, by rw [q3]; exact huf, r1, r2, by rw [q3]; exact r3, rfl⟩⟩
            rw [List.length_take, Array.length_toList, q3, r3, Nat.min_eq_left (Nat.mul_le_mul_right _ r1)]
      | mp L =>
        obtain ⟨r, es, c, h3, h4, h5⟩ := hold
        refine ⟨r, es, c, by rw [henv.2]; exact h3, ?_, h5⟩
        rw [hk.whole (Array.getElem?_eq_some_iff.1 h4).1 (fun o => hfree d _ r o ht h1 h3)]
        exact h4
  · rintro b o ⟨d, r, h1, h2⟩ hb
    cases ht : t d with
    | true =>
      rcases hf d r b o ht h1 h2 with ⟨e, r0, _, h3, h4⟩ | h3
      · exact k.may b o ⟨e, r0, h3, h4⟩ hb
      · have := k.keep.size; omega
    | false =>
      obtain ⟨r0, h3, rfl, _⟩ := hl d r ht h1
      rw [foot_map, foot_env (he d r0 ht h3)] at h2
      exact k.may b o ⟨d, r0, h3, h2⟩ hb
  · intro d d' r r' b o hne h1 h2 h3 h4
    -- a touched name and an untouched one
    have mixed : ∀ d d' r r', t d = true → t d' = false → look h' d = some r → look h' d' = some r' → Foot g' d r b o → ¬ Foot g' d' r' b o := by
      intro d d' r r' ht ht' h1 h2 h3 h4
      obtain ⟨r0, h5, rfl, _⟩ := hl d' r' ht' h2
      rw [foot_map, foot_env (he d' r0 ht' h5)] at h4
      rcases hf d r b o ht h1 h3 with h6 | h6
      · exact hfree d' r0 b o ht' h5 h4 h6
      · have := (k.holds d' r0 h5).lt h4; omega
    cases ht : t d with
    | true =>
      cases ht' : t d' with
      | true => exact hd d d' r r' b o ht ht' hne h1 h2 h3 h4
      | false => exact mixed d d' r r' ht ht' h1 h2 h3 h4
    | false =>
      cases ht' : t d' with
      | true => exact mixed d' d r' r ht' ht h2 h1 h4 h3
      | false =>
        obtain ⟨r0, h5, rfl, _⟩ := hl d r ht h1
        obtain ⟨r1, h6, rfl, _⟩ := hl d' r' ht' h2
        rw [foot_map, foot_env (he d r0 ht h5)] at h3
        rw [foot_map, foot_env (he d' r1 ht' h6)] at h4
        exact k.dis d d' r0 r1 b o hne h5 h6 h3 h4
  · intro d cs hd6 hl6
    cases ht : t d with
    | true => exact hfix d cs ht hd6 hl6
    | false =>
      obtain ⟨r0, h5, h6, _⟩ := hl d _ ht hl6
      cases r0 with
      | box cs0 => rw [(he d _ ht h5).1]; exact k.fix d cs0 hd6 h5
      | row e s n xs => cases h6
      | spare e s n => cases h6
      | mp L => cases h6
  · intro d r hd hb b o hf'
    cases ht : t d with
    | true => exact hnew d r ht hd hb b o hf'
    | false =>
      obtain ⟨r0, h5, rfl, _⟩ := hl d r ht hd
      rw [foot_map, foot_env (he d r0 ht h5)] at hf'
      exact k.new d r0 h5 (by cases r0 <;> simp_all [Res.isBox, Res.map]) b o hf'

/-- a reader that sees all new memory outside a footprint -/
def SeesX (w : World) (may : Nat → Nat → Prop) (rd : Rd) (w' : World) (ex : Nat → Nat → Prop) : Prop := ∀ b o u, (w.heap.size ≤ b ∨ may b o) → ¬ ex b o → w'.cell? ⟨b, o, none⟩ = some u → rd b o = some u
def Sees (w : World) (rd : Rd) (w' : World) : Prop := ∀ b o u, w.heap.size ≤ b → w'.cell? ⟨b, o, none⟩ = some u → rd b o = some u
theorem rdOf_sees (k : HG K g w h) {may : Nat → Nat → Prop} (hm : ∀ b o, may b o → b < K.w0.heap.size → K.may b o) : SeesX w may (rdOf K g' h' w') w' (InFoot g' h') := by
  intro b o u hb hx hc
  unfold rdOf
  rw [if_neg hx, if_neg]
  · exact hc
  · rintro ⟨h1, h2⟩
    rcases hb with hb | hb
    · have := k.keep.size; omega
    · exact h2 (hm b o hb h1)
end
end
section
open Go.RowKit

structure View (g : Env) (rd : Rd) (a : Act) (w : World) (s : St) : Prop where
  tmps : ∀ t v, t < 2000000 → look s.tmps t = some v → ∃ u, a.tmps[t]? = some u ∧ VRel rd g u v
  reads : ∀ b o v, rd b o = some v → w.cell? ⟨b, o, none⟩ = some v
  holds : ∀ d r, look s.hp d = some r → Holds rd g w d r
theorem RG.view {K : Ctx} {g : Env} {n : Nat} {a : Act} {w : World} {s : St} (h : RG K g n a w s) : View g (rdOf K g s.hp w) a w s := ⟨fun t v ht hv => let ⟨u, h1, h2⟩ := h.tmps t v hv; ⟨u, by rw [slotAt, if_pos ht] at h1; exact h1, h2⟩, rdOf_le _ _ h.hg.keep, h.hg.holds⟩

def constSV : Value → Option SV
  | .agg vs => some (.agg (vs.toList.map SC.lit))
  | .tuple _ => none
  | v => some (.c (.lit v))
def opd (s : St) : Operand → Option SV
  | .tmp t => if t < 2000000 then look s.tmps t else none
  | .const v => constSV v
  | .func f => some (.c (.lit (.func (.func f) #[] #[])))
  | .global _ => none
theorem constSV_rel {rd : Rd} {g : Env} {v : Value} {x : SV} (h : constSV v = some x) : VRel rd g v x := by
  unfold constSV at h
  split at h
  · cases h
    refine ⟨_, rfl, by simp, fun j y hy => ?_⟩
    rw [List.getElem?_map] at hy
    obtain ⟨u, hu, rfl⟩ := Option.map_eq_some_iff.1 hy
    exact ⟨u, by simpa using hu, .lit u⟩
  · cases h
  · cases h; exact IRel.lit _
theorem View.opd {g : Env} {rd : Rd} {a : Act} {w : World} {s : St} (h : View g rd a w s) {x : Operand} {v : SV} (hx : opd s x = some v) : VRel rd g (a.eval x) v := by
  cases x with
  | tmp t =>
    simp only [Go.Proofs.YtplihihjfjmbfaaGreat.opd] at hx
    split at hx
    rotate_left
    · cases hx
    rename_i ht
    obtain ⟨u, h1, h2⟩ := h.tmps t v ht hx
    simp only [Act.eval, Array.getD_eq_getD_getElem?, h1, Option.getD_some]
    exact h2
  | const v => exact constSV_rel hx
  | func f => simp only [Go.Proofs.YtplihihjfjmbfaaGreat.opd] at hx; cases hx; exact .lit _
  | global g => simp [Go.Proofs.YtplihihjfjmbfaaGreat.opd] at hx

/-- what one operation sees -/
structure OView (g : Env) (rd : Rd) (a : Act) (w : World) (s : St) (o : Oper) : Prop where
  op : ∀ x v, x ∈ o.op.operands.toList → opd s x = some v → VRel rd g (a.eval x) v
  reads : ∀ b o v, rd b o = some v → w.cell? ⟨b, o, none⟩ = some v
  holds : ∀ d r, look s.hp d = some r → Holds rd g w d r
theorem View.o {g : Env} {rd : Rd} {a : Act} {w : World} {s : St} (h : View g rd a w s) (o : Oper) : OView g rd a w s o := ⟨fun _ _ _ hx => h.opd hx, h.reads, h.holds⟩
theorem OView.box {g : Env} {rd : Rd} {a : Act} {w : World} {s : St} {o : Oper} (h : OView g rd a w s o) (d : Nat) (cs : List SC) (hl : s.lookB d = some cs) (j : Nat) (y : SC) (hy : cs[j]? = some y) : ∃ u, w.cell? ⟨(g.pos d).1, (g.pos d).2 + j, none⟩ = some u ∧ CRel rd g u y :=
  let ⟨u, h1, _, h3⟩ := h.holds d _ (lookB_some hl) j y hy; ⟨u, h1, h3⟩
def PureOp (P : Program) (o : Oper) (s : St) (v : SV) : Prop :=
  ∀ g rd a w, OView g rd a w s o → ∃ u, (execOp a.eval o).run P w = .ok (.value u) w ∧ VRel rd g u v

theorem addr_add (b o n : Nat) : (⟨b, o, none⟩ : Addr).add n = ⟨b, o + n, none⟩ := by
  unfold Addr.add
  split
  · rename_i h; subst h; rfl
  · rfl

def int (k : IntKind) (n : Int) : SV := .c (.lit (.int k n))
def bool (b : Bool) : SV := .c (.lit (.bool b))

theorem rel_lit {rd : Rd} {g : Env} {u v : Value} (h : VRel rd g u (.c (.lit v))) : u = v := by
  simp only [VRel, CRel, CRel0] at h
  cases h
  rfl
theorem lit_rel (rd : Rd) (g : Env) (v : Value) : VRel rd g v (.c (.lit v)) := IRel.lit v

theorem pure_move {P : Program} {o : Oper} {s : St} {v : SV} {x : Operand} (ho : o.op = .move x ∨ o.op = .assign x) (hx : opd s x = some v) : PureOp P o s v := by
  intro g rd a w hv
  rcases ho with ho | ho <;> exact ⟨a.eval x, by simp [execOp, ho], hv.op _ _ (by simp [ho, Op.operands]) hx⟩
theorem pure_pick {P : Program} {o : Oper} {s : St} {v : SV} {c x y : Operand} (b : Bool) (ho : o.op = .pick c x y) (hc : opd s c = some (bool b)) (hx : opd s (if b then x else y) = some v) : PureOp P o s v := by
  intro g rd a w hv
  have h1 := rel_lit (hv.op _ _ (by simp [ho, Op.operands]) hc)
  refine ⟨a.eval (if b then x else y), ?_, hv.op _ _ (by cases b <;> simp [ho, Op.operands]) hx⟩
  simp only [execOp, ho, h1, asBool]
  cases b <;> simp

def iand (k : IntKind) (x y : Int) : Int := k.wrap ((BitVec.ofInt k.bits x &&& BitVec.ofInt k.bits y).toNat : Int)
def ior (k : IntKind) (x y : Int) : Int := k.wrap ((BitVec.ofInt k.bits x ||| BitVec.ofInt k.bits y).toNat : Int)
def ixor (k : IntKind) (x y : Int) : Int := k.wrap ((BitVec.ofInt k.bits x ^^^ BitVec.ofInt k.bits y).toNat : Int)
def iandNot (k : IntKind) (x y : Int) : Int := k.wrap ((BitVec.ofInt k.bits x &&& ~~~ BitVec.ofInt k.bits y).toNat : Int)
def ishl (k : IntKind) (x y : Int) : Int := k.wrap (x * 2 ^ min y.toNat k.bits)
def ishr (k : IntKind) (x y : Int) : Int := x.fdiv (2 ^ min y.toNat k.bits)
def iquo (k : IntKind) (x y : Int) : Int := k.wrap (x.tdiv y)

def intBin (op : BinOp) (k : IntKind) (x y : Int) : Option SV := match op with
  | .add => some (int k (k.wrap (x + y)))
  | .sub => some (int k (k.wrap (x - y)))
  | .mul => some (int k (k.wrap (x * y)))
  | .and => some (int k (iand k x y))
  | .or => some (int k (ior k x y))
  | .xor => some (int k (ixor k x y))
  | .andNot => some (int k (iandNot k x y))
  | .eql => some (bool (x == y))
  | .neq => some (bool (x != y))
  | .lss => some (bool (decide (x < y)))
  | .leq => some (bool (decide (x ≤ y)))
  | .gtr => some (bool (decide (x > y)))
  | .geq => some (bool (decide (x ≥ y)))
  | _ => none

theorem eqGuard_int {P : Program} {w : World} (op : BinOp) (t : TypeId) (x y : Operand) (k k' : IntKind) (a b : Int) : (eqGuard op t x y (.int k a) (.int k' b)).run P w = .ok () w := by
  unfold eqGuard
  split <;> simp

theorem pure_int {P : Program} {o : Oper} {s : St} {v : SV} {op : BinOp} {t t' : TypeId} {x y : Operand} {k : IntKind} (m n : Int) (ho : o.op = .binOp op t x y t') (hx : opd s x = some (int k m)) (hy : opd s y = some (int k n)) (hv : intBin op k m n = some v) : PureOp P o s v := by
  intro g rd a w hview
  have h1 := rel_lit (hview.op _ _ (by simp [ho, Op.operands]) hx)
  have h2 := rel_lit (hview.op _ _ (by simp [ho, Op.operands]) hy)
  cases op <;> simp only [intBin, reduceCtorEq] at hv
  all_goals
    obtain rfl := Option.some.inj hv
    refine ⟨_, ?_, lit_rel _ _ _⟩
    simp [execOp, ho, h1, h2, eqGuard_int, Go.binOp, Op.intArith, Op.intBits, Op.intCmp, iand, ior, ixor, iandNot]

def intBinC (op : BinOp) (k : IntKind) (x y : Int) : Option (SV × Prop) := match op with
  | .quo => some (int k (iquo k x y), y ≠ 0)
  | .rem => some (int k (x.tmod y), y ≠ 0)
  | .shl => some (int k (ishl k x y), 0 ≤ y)
  | .shr => some (int k (ishr k x y), 0 ≤ y)
  | _ => none
theorem pure_intC {P : Program} {o : Oper} {s : St} {v : SV} {p : Prop} {op : BinOp} {t t' : TypeId} {x y : Operand} {k k' : IntKind} (m n : Int) (hk : op = .shl ∨ op = .shr ∨ k' = k) (ho : o.op = .binOp op t x y t') (hx : opd s x = some (int k m)) (hy : opd s y = some (int k' n)) (hv : intBinC op k m n = some (v, p)) (hp : p) : PureOp P o s v := by
  intro g rd a w hview
  have h1 := rel_lit (hview.op _ _ (by simp [ho, Op.operands]) hx)
  have h2 := rel_lit (hview.op _ _ (by simp [ho, Op.operands]) hy)
  cases op <;> simp only [intBinC, reduceCtorEq] at hv
  all_goals
    obtain ⟨rfl, rfl⟩ := Prod.mk.inj (Option.some.inj hv)
    refine ⟨_, ?_, lit_rel _ _ _⟩
  case quo => obtain rfl : k' = k := by simpa using hk
              simp [execOp, ho, h1, h2, eqGuard_int, Go.binOp, Op.intDiv, iquo, hp]
  case rem => obtain rfl : k' = k := by simpa using hk
              simp [execOp, ho, h1, h2, eqGuard_int, Go.binOp, Op.intDiv, hp]
  case shl => simp [execOp, ho, h1, h2, eqGuard_int, Go.binOp, Op.shift, ishl, Int.not_lt.2 hp]
  case shr => simp [execOp, ho, h1, h2, eqGuard_int, Go.binOp, Op.shift, ishr, Int.not_lt.2 hp]

/-- == and != of bools -/
theorem pure_boolEq {P : Program} {o : Oper} {s : St} {op : BinOp} {t t' : TypeId} {x y : Operand} (m n r : Bool) (ho : o.op = .binOp op t x y t') (hx : opd s x = some (bool m)) (hy : opd s y = some (bool n)) (hu : P.underlying t = some .bool)
    (hr : (op = .eql ∧ r = (m == n)) ∨ (op = .neq ∧ r = !(m == n))) : PureOp P o s (bool r) := by
  intro g rd a w hview
  have h1 := rel_lit (hview.op _ _ (by simp [ho, Op.operands]) hx)
  have h2 := rel_lit (hview.op _ _ (by simp [ho, Op.operands]) hy)
  refine ⟨_, ?_, lit_rel _ _ _⟩
  rcases hr with ⟨rfl, rfl⟩ | ⟨rfl, rfl⟩ <;>
  simp [execOp, ho, h1, h2, eqGuard, Go.binOp, run_equal_bool w t m n hu]

def unSV (op : UnOp) : SV → Option SV
  | .c (.lit (.bool b)) => match op with
    | .not => some (bool !b)
    | _ => none
  | .c (.lit (.int k n)) => match op with
    | .neg => some (int k (k.wrap (0 - n)))
    | .xor => some (int k (ixor k (if k.signed then -1 else k.max) n))
    | _ => none
  | _ => none
theorem pure_un {P : Program} {o : Oper} {s : St} {v x' : SV} {op : UnOp} {t : TypeId} {x : Operand} (ho : o.op = .unOp op t x) (hx : opd s x = some x') (hv : unSV op x' = some v) : PureOp P o s v := by
  intro g rd a w hview
  have h1 := hview.op _ _ (by simp [ho, Op.operands]) hx
  unfold unSV at hv
  split at hv
  · have h2 := rel_lit h1
    split at hv <;> cases hv
    exact ⟨_, by simp [execOp, ho, h2, Op.unary], lit_rel _ _ _⟩
  · have h2 := rel_lit h1
    split at hv <;> cases hv
    · exact ⟨_, by simp [execOp, ho, h2, Op.unary, Op.intArith], lit_rel _ _ _⟩
    · exact ⟨_, by simp [execOp, ho, h2, Op.unary, Op.intBits, ixor], lit_rel _ _ _⟩
  · cases hv

theorem pure_conv {P : Program} {o : Oper} {s : St} {t t' : TypeId} {x : Operand} {k : IntKind} (k' : IntKind) (n : Int) (ho : o.op = .convert t t' x) (hx : opd s x = some (int k n)) (h0 : P.underlying t = some (.int k)) (hu : P.underlying t' = some (.int k')) : PureOp P o s (int k' (k'.wrap n)) := by
  intro g rd a w hview
  have h1 := rel_lit (hview.op _ _ (by simp [ho, Op.operands]) hx)
  exact ⟨_, by simp [execOp, ho, h1, convert, run_underlying hu, run_underlying h0, Conv.intToInt], lit_rel _ _ _⟩

def aggT (P : Program) (t : TypeId) : Bool := match P.underlying t with
  | some (.struct _) => true
  | some (.array _ _) => true
  | _ => false
/-- cells as a value of a type -/
def wrapT (P : Program) (t : TypeId) (cs : List SC) : Option SV := match P.underlying t, P.info? t with
  | some _, some i => if aggT P t then (if i.size ≤ cs.length then some (.agg (cs.take i.size)) else none) else match cs with
    | x :: _ => some (.c x)
    | [] => none
  | _, _ => none
def cellsAt (s : St) : SV → Option (List SC)
  | .c (.box d off) => match s.lookB d with
    | some cs => some (cs.drop off)
    | none => none
  | .c (.ref cs) => some cs
  | _ => none

theorem OView.cellsAt {g : Env} {rd : Rd} {a : Act} {w : World} {s : St} {o : Oper} (h : OView g rd a w s o) {u : Value} {v : SV} {cs : List SC} (hv : VRel rd g u v) (hc : cellsAt s v = some cs) :
    ∃ b o, u = .pointer (some ⟨b, o, none⟩) ∧ ∀ j y, cs[j]? = some y → ∃ z, w.cell? ⟨b, o + j, none⟩ = some z ∧ CRel rd g z y := by
  unfold Go.Proofs.YtplihihjfjmbfaaGreat.cellsAt at hc
  split at hc
  · rename_i d off
    split at hc
    · rename_i cs' hl
      cases hc
      simp only [VRel, CRel, CRel0] at hv
      refine ⟨_, _, hv, fun j y hy => ?_⟩
      rw [List.getElem?_drop] at hy
      obtain ⟨z, h1, h2⟩ := h.box d _ hl _ y hy
      exact ⟨z, by rw [← Nat.add_assoc] at h1; exact h1, h2⟩
    · cases hc
  · cases hc
    simp only [VRel, CRel, CRel0] at hv
    cases hv with
    | ref b o _ f hr hu =>
      exact ⟨b, o, rfl, fun j y hy => ⟨f j, h.reads _ _ _ (hr j y hy), (hu j y hy).c⟩⟩
  · cases hc

theorem run_loadVar_sh {P : Program} {w : World} {g : Env} {rd : Rd} {t : TypeId} {cs : List SC} {v : SV} {b o : Nat} (hw : wrapT P t cs = some v) (h : ∀ j y, cs[j]? = some y → ∃ z, w.cell? ⟨b, o + j, none⟩ = some z ∧ CRel rd g z y) :
    ∃ u, (loadVar t ⟨b, o, none⟩).run P w = .ok u w ∧ VRel rd g u v := by
  unfold wrapT at hw
  split at hw
  · rename_i d i hd hi
    split at hw
    · rename_i hagg
      split at hw
      · rename_i hsz
        cases hw
        have hz : ∃ f : Nat → Value, ∀ j, j < i.size → w.cell? ⟨b, o + j, none⟩ = some (f j) ∧ ∀ y, cs[j]? = some y → CRel rd g (f j) y := by
          refine ⟨fun j => if hj : j < i.size then Classical.choose (h j cs[j] (List.getElem?_eq_getElem (by omega))) else undef, fun j hj => ?_⟩
          have hc := Classical.choose_spec (h j cs[j] (List.getElem?_eq_getElem (by omega)))
          simp only [hj, dif_pos]
          refine ⟨hc.1, fun y hy => ?_⟩
          rw [List.getElem?_eq_getElem (by omega : j < cs.length)] at hy
          cases hy
          exact hc.2
        obtain ⟨f, hf⟩ := hz
        have hl := run_loadCells (P := P) (w := w) ⟨b, o, none⟩ i.size f (fun j hj => by rw [addr_add]; exact (hf j hj).1)
        have hisagg : (isAgg t).run P w = .ok true w := by
          unfold aggT at hagg
          rw [hd] at hagg
          cases d <;> simp only [Bool.false_eq_true] at hagg <;> simp [isAgg, run_underlying hd]
        refine ⟨_, by simp [loadVar, hisagg, sizeOf, typeInfo, hi, hl]; rfl, _, rfl, ?_⟩
        refine ⟨by simp; omega, fun j y hy => ?_⟩
        rw [List.getElem?_take] at hy
        split at hy
        · rename_i hj
          exact ⟨f j, by simp [hj], (hf j hj).2 y hy⟩
        · cases hy
      · cases hw
    · rename_i hagg
      split at hw
      · rename_i x rest
        cases hw
        obtain ⟨z, h1, h2⟩ := h 0 x rfl
        have hisagg : (isAgg t).run P w = .ok false w := by
          unfold aggT at hagg
          rw [hd] at hagg
          cases d <;> simp only [not_true_eq_false] at hagg <;> simp [isAgg, run_underlying hd]
        refine ⟨z, ?_, h2⟩
        simp only [Nat.add_zero] at h1
        simp [loadVar, hisagg, load, Sem.run, h1]
      · cases hw
  · cases hw

theorem pure_load {P : Program} {o : Oper} {s : St} {v p : SV} {t : TypeId} {x : Operand} {cs : List SC} (ho : o.op = .load t x) (hx : opd s x = some p) (hc : cellsAt s p = some cs) (hv : wrapT P t cs = some v) : PureOp P o s v := by
  intro g rd a w hview
  obtain ⟨b, off, h1, h2⟩ := hview.cellsAt (hview.op _ _ (by simp [ho, Op.operands]) hx) hc
  obtain ⟨u, h3, h4⟩ := run_loadVar_sh (P := P) hv h2
  exact ⟨u, by simp [execOp, ho, h1, Instr.loadAt, Instr.sureAddr, h3], h4⟩

/-- a pointer moved on by some cells -/
def shift (n : Nat) : SV → Option SV
  | .c (.box d off) => some (.c (.box d (off + n)))
  | .c (.ref cs) => some (.c (.ref (cs.drop n)))
  | .c (.elt d s i off) => some (.c (.elt d s i (off + n)))
  | _ => none
theorem rel_shift {rd : Rd} {g : Env} {u : Value} {p v : SV} {n : Nat} (h : VRel rd g u p) (hs : shift n p = some v) : ∃ b o, u = .pointer (some ⟨b, o, none⟩) ∧ VRel rd g (.pointer (some ⟨b, o + n, none⟩)) v := by
  unfold shift at hs
  split at hs
  · cases hs
    simp only [VRel, CRel, CRel0] at h ⊢
    exact ⟨_, _, h, by rw [Nat.add_assoc]⟩
  · cases hs
    simp only [VRel, CRel, CRel0] at h ⊢
    cases h with
    | ref b o cs f hr hu =>
      refine ⟨b, o, rfl, .ref b (o + n) _ (fun j => f (n + j)) (fun j y hy => ?_) (fun j y hy => ?_)⟩
      · rw [List.getElem?_drop] at hy
        rw [Nat.add_assoc]
        exact hr _ y hy
      · rw [List.getElem?_drop] at hy
        exact hu _ y hy
  · cases hs
    obtain ⟨b, N, c, h1, rfl⟩ := h
    exact ⟨b, _, rfl, b, N, c, h1, by rw [Nat.add_assoc]⟩
  · cases hs

def fieldOf (P : Program) (t : TypeId) (k : Nat) : Option Nat := match P.underlying t with
  | some (.struct fs) => match fs[k]? with
    | some f => match P.info? f.type with
      | some i => if i.size = 0 then none else some f.offset
      | none => none
    | none => none
  | _ => none
theorem pure_fieldAddr {P : Program} {o : Oper} {s : St} {v p : SV} {t : TypeId} {x : Operand} {k n : Nat} (ho : o.op = .fieldAddr t x k) (hx : opd s x = some p) (hf : fieldOf P t k = some n) (hv : shift n p = some v) : PureOp P o s v := by
  intro g rd a w hview
  obtain ⟨b, off, h1, h2⟩ := rel_shift (hview.op _ _ (by simp [ho, Op.operands]) hx) hv
  unfold fieldOf at hf
  split at hf
  · rename_i fs hu
    split at hf
    · rename_i f hk
      split at hf
      · rename_i i hi
        split at hf
        · cases hf
        · rename_i hz
          cases hf
          refine ⟨_, ?_, h2⟩
          simp [execOp, ho, h1, Instr.fieldAt, run_underlying hu, hk, Instr.sureAddr, fieldPlace, sizeOf, typeInfo, hi, hz, addr_add]
      · cases hf
    · cases hf
  · cases hf

/-- &a[i], a an array's address -/
theorem pure_indexArr {P : Program} {o : Oper} {s : St} {v p : SV} {t e : TypeId} {x y : Operand} {k : IntKind} (m sz : Nat) (i : Int) (n : Nat) (ho : o.op = .indexAddr t x y) (hx : opd s x = some p) (hy : opd s y = some (int k i)) (hu : P.underlying t = some (.array m e)) (hi : (P.info? e).map (·.size) = some sz)
    (h0 : 0 ≤ i) (hm : i < m) (hn : n = i.toNat * sz) (hv : shift n p = some v) : PureOp P o s v := by
  intro g rd a w hview
  have h1 := rel_lit (hview.op _ _ (by simp [ho, Op.operands]) hy)
  obtain ⟨b, off, h2, h3⟩ := rel_shift (hview.op _ _ (by simp [ho, Op.operands]) hx) hv
  obtain ⟨j, hj, rfl⟩ := Option.map_eq_some_iff.1 hi
  subst hn
  refine ⟨_, ?_, h3⟩
  simp [execOp, ho, h1, h2, Instr.indexAt, asIntOf, run_underlying hu, Instr.sureAddr, h0, hm, sizeOf, typeInfo, hj, addr_add]

/-- &l[i], l a slice -/
theorem pure_indexSlc {P : Program} {o : Oper} {s : St} {t e : TypeId} {x y : Operand} {k : IntKind} (tag sz N : Nat) (xs : List (List SC)) (i : Int) (c : List SC) (ho : o.op = .indexAddr t x y) (hx : opd s x = some (.c (.slc sz tag N xs))) (hy : opd s y = some (int k i)) (hu : P.underlying t = some (.slice e)) (hi : (P.info? e).map (·.size) = some sz)
    (h0 : 0 ≤ i) (hc : xs[i.toNat]? = some c) : PureOp P o s (.c (.ref c)) := by
  intro g rd a w hview
  have h1 := rel_lit (hview.op _ _ (by simp [ho, Op.operands]) hy)
  have h2 := hview.op _ _ (by simp [ho, Op.operands]) hx
  obtain ⟨j, hj, hsz⟩ := Option.map_eq_some_iff.1 hi
  simp only [VRel, CRel, CRel0] at h2
  have hlt := (List.getElem?_eq_some_iff.1 hc).1
  generalize hv : a.eval x = v at *
  obtain ⟨h2, _⟩ := h2
  cases h2 with
  | nil => simp at hlt
  | slc b off n c' s xs f hn hnc hm hs hr hu' =>
    refine ⟨_, ?_, .ref b (off + i.toNat * sz) c (fun j => f i.toNat j) (fun j y hy => hr _ _ _ _ hc hy) (fun j y hy => hu' _ _ _ _ hc hy)⟩
    have : i < (N : Int) := by omega
    simp [execOp, ho, h1, hv, Instr.indexAt, asIntOf, run_underlying hu, h0, this, sizeOf, typeInfo, hj, addr_add, hsz]

theorem pure_nilCheck {P : Program} {o : Oper} {s : St} {v : SV} {x : Operand} (ho : o.op = .nilCheck x) (hx : opd s x = some v) (hp : (cellsAt s v).isSome = true) : PureOp P o s v := by
  intro g rd a w hview
  have h1 := hview.op _ _ (by simp [ho, Op.operands]) hx
  obtain ⟨cs, hcs⟩ := Option.isSome_iff_exists.1 hp
  obtain ⟨b, off, h2, _⟩ := hview.cellsAt h1 hcs
  exact ⟨_, by simp [execOp, ho, h2], h2 ▸ h1⟩

theorem pure_lenAny {P : Program} {o : Oper} {s : St} {t : TypeId} {x : Operand} {e : TypeId} {v : SV} (N : Nat) (ho : o.op = .call { callee := .builtin .len, args := #[x], argTypes := #[t] }) (_hx : opd s x = some v) (hu : P.underlying t = some (.slice e)) (hv : ∀ g rd a w, OView g rd a w s o → ∃ A c, a.eval x = .slice A N c) : PureOp P o s (int .i64 N) := by
  intro g rd a w hview
  obtain ⟨A, c, hv⟩ := hv g rd a w hview
  exact ⟨_, by simp [execOp, ho, resolve, invoke, builtin, Builtin.len_, run_underlying hu, hv, goInt], lit_rel _ _ _⟩
theorem pure_max {P : Program} {o : Oper} {s : St} {ts : Array TypeId} {x y : Operand} {k : IntKind} (m n : Int) (ho : o.op = .call { callee := .builtin .max, args := #[x, y], argTypes := ts }) (hx : opd s x = some (int k m)) (hy : opd s y = some (int k n)) : PureOp P o s (int k (if m < n then n else m)) := by
  intro g rd a w hview
  have h1 := rel_lit (hview.op _ _ (by simp [ho, Op.operands, Call.operands]) hx)
  have h2 := rel_lit (hview.op _ _ (by simp [ho, Op.operands, Call.operands]) hy)
  exact ⟨_, by simp [execOp, ho, resolve, invoke, builtin, Builtin.max_, Builtin.max2, h1, h2], lit_rel _ _ _⟩

theorem pure_min {P : Program} {o : Oper} {s : St} {ts : Array TypeId} {x y : Operand} {k : IntKind} (m n : Int) (ho : o.op = .call { callee := .builtin .min, args := #[x, y], argTypes := ts }) (hx : opd s x = some (int k m)) (hy : opd s y = some (int k n)) : PureOp P o s (int k (if n < m then n else m)) := by
  intro g rd a w hview
  have h1 := rel_lit (hview.op _ _ (by simp [ho, Op.operands, Call.operands]) hx)
  have h2 := rel_lit (hview.op _ _ (by simp [ho, Op.operands, Call.operands]) hy)
  exact ⟨_, by simp [execOp, ho, resolve, invoke, builtin, Builtin.min_, Builtin.min2, h1, h2], lit_rel _ _ _⟩

theorem pure_extract {P : Program} {o : Oper} {s : St} {x : Operand} {k : Nat} {v : SV} (vs : List (Bool × List SC)) (y : Bool × List SC) (ho : o.op = .extract x k) (hx : opd s x = some (.tup vs)) (hk : vs[k]? = some y) (hv : v = if y.1 then .agg y.2 else match y.2 with | z :: _ => .c z | [] => .agg []) : PureOp P o s v := by
  intro g rd a w hview
  have h2 := hview.op _ _ (by simp [ho, Op.operands]) hx
  simp only [VRel] at h2
  obtain ⟨us, h3, h4, h5⟩ := h2
  obtain ⟨u, h6, h7⟩ := h5 k y hk
  refine ⟨u, by simp [execOp, ho, h3, Instr.extract, h6], ?_⟩
  subst hv
  unfold FRel at h7
  split
  · rename_i hy; rw [if_pos hy] at h7; exact h7
  · rename_i hy; rw [if_neg hy] at h7
    obtain ⟨z, h8, h9⟩ := h7
    rw [h8]
    exact h9
def cellsOf : SV → Option (List SC)
  | .c (.lit (.agg _)) => none
  | .c .any => none
  | .c x => some [x]
  | .agg cs => some cs
  | .tup _ => none
theorem rel_cells {rd : Rd} {g : Env} {u : Value} {v : SV} {cs : List SC} (h : VRel rd g u v) (hc : cellsOf v = some cs) : CsRel rd g u.cells cs := by
  unfold cellsOf at hc
  split at hc
  · cases hc
  · cases hc
  · rename_i x hx hx'
    cases hc
    have : u.cells = #[u] := by
      unfold Value.cells
      split
      · rename_i vs
        exfalso
        simp only [VRel] at h
        cases x <;> simp only [CRel, CRel0] at h
        case lit => cases h; exact hx _ rfl
        case slc => cases h.1
        case ref => cases h
        case box => cases h
        case own => obtain ⟨h1, ⟨a, n, c, h2⟩ | ⟨r, h2⟩⟩ := h <;> (rw [h2] at h1; cases h1)
        case row => obtain ⟨a, n, c, h1, h2, _⟩ := h; cases h2
        case win => obtain ⟨a, c, h1, _⟩ := h; cases h1
        case sub => obtain ⟨_, _, _, _, _, _, _, h1, _⟩ := h; cases h1
        case elt => obtain ⟨_, _, _, _, h1⟩ := h; cases h1
        case ex => obtain ⟨_, h1 | ⟨_, _, h1⟩⟩ := h <;> cases h1
        case any => exact hx' rfl
        case clo => obtain ⟨a, h1, _⟩ := h; cases h1
      · rfl
    rw [this]
    refine ⟨rfl, fun j y hy => ?_⟩
    cases j with
    | zero => cases hy; exact ⟨u, rfl, h⟩
    | succ j => simp at hy
  · cases hc
    simp only [VRel] at h
    obtain ⟨vs, rfl, h2⟩ := h
    exact h2
  · cases hc

def fillS (place : Nat → Option (Nat × Nat)) (cells : List SC) : List (Nat × SV) → Option (List SC)
  | [] => some cells
  | (i, v) :: rest => match place i with
    | none => none
    | some (off, size) => match cellsOf v with
      | none => none
      | some vs => if vs.length ≠ size || off + vs.length > cells.length then none else fillS place (cells.take off ++ vs ++ cells.drop (off + vs.length)) rest

theorem foldl_set (off : Nat) : ∀ (l : List Value) (i : Nat) (cells : Array Value), let r := (l.zipIdx i).foldl (fun cs (p : Value × Nat) => cs.setIfInBounds (off + p.2) p.1) cells
    r.size = cells.size ∧ ∀ k, r[k]? = if off + i ≤ k ∧ k < off + i + l.length ∧ k < cells.size then l[k - (off + i)]? else cells[k]?
  | [], i, cells => by
    simp only [List.zipIdx_nil, List.foldl_nil, List.length_nil, true_and]
    intro k
    rw [if_neg (by omega)]
  | x :: l, i, cells => by
    have ih := foldl_set off l (i + 1) (cells.setIfInBounds (off + i) x)
    simp only [List.zipIdx_cons, List.foldl_cons] at ih ⊢
    refine ⟨by simpa using ih.1, fun k => ?_⟩
    rw [ih.2 k]
    simp only [Array.size_setIfInBounds, List.length_cons, Array.getElem?_setIfInBounds]
    by_cases h1 : k = off + i
    · subst h1
      rw [if_neg (by omega), if_pos rfl]
      by_cases h2 : off + i < cells.size
      · rw [if_pos h2, if_pos (by omega)]; simp
      · rw [if_neg h2, if_neg (by omega)]
        rw [Array.getElem?_eq_none (by omega)]
    · rw [if_neg (Ne.symm h1)]
      by_cases h2 : off + (i + 1) ≤ k ∧ k < off + (i + 1) + l.length ∧ k < cells.size
      · rw [if_pos h2, if_pos (by omega)]
        rw [show k - (off + i) = (k - (off + (i + 1))) + 1 by omega, List.getElem?_cons_succ]
      · rw [if_neg h2, if_neg (by omega)]

theorem fill_rel {rd : Rd} {g : Env} {place : Nat → Option (Nat × Nat)} : ∀ (ps : List (Nat × Value)) (qs : List (Nat × SV)) (cells : Array Value) (cs ds : List SC), ps.length = qs.length →
    (∀ (i : Nat) (p : Nat × Value) (q : Nat × SV), ps[i]? = some p → qs[i]? = some q → p.1 = q.1 ∧ VRel rd g p.2 q.2) → CsRel rd g cells cs → fillS place cs qs = some ds → ∃ r, Instr.fill place cells ps = some r ∧ CsRel rd g r ds
  | [], [], cells, cs, ds, _, _, hc, h => by
    cases h
    exact ⟨cells, rfl, hc⟩
  | (i, v) :: ps, (j, x) :: qs, cells, cs, ds, hl, hr, hc, h => by
    obtain ⟨rfl, hv⟩ := hr 0 _ _ rfl rfl
    simp only [fillS] at h
    simp only [Instr.fill]
    split at h
    · cases h
    · rename_i off size hp
      split at h
      · cases h
      · rename_i vs hvs
        split at h
        · cases h
        · rename_i hb
          simp only [Bool.or_eq_true, decide_eq_true_eq, not_or, Decidable.not_not, Nat.not_lt] at hb
          have hcv := rel_cells hv hvs
          simp only [hp]
          rw [if_neg (by simp only [Bool.or_eq_true, decide_eq_true_eq, not_or, Decidable.not_not, Nat.not_lt, hcv.1, hc.1]; exact hb)]
          have hf := foldl_set off v.cells.toList 0 cells
          simp only at hf
          have e : v.cells.zipIdx.foldl (fun cs x => cs.setIfInBounds (off + x.2) x.1) cells = (v.cells.toList.zipIdx 0).foldl (fun cs (p : Value × Nat) => cs.setIfInBounds (off + p.2) p.1) cells := by
            rw [← Array.foldl_toList, Array.toList_zipIdx]
          have e' : Array.foldl (fun cs (x : Value × Nat) => match x with | (c, j) => cs.setIfInBounds (off + j) c) cells v.cells.zipIdx = (v.cells.toList.zipIdx 0).foldl (fun cs (p : Value × Nat) => cs.setIfInBounds (off + p.2) p.1) cells := e
          rw [e']
          generalize (v.cells.toList.zipIdx 0).foldl (fun cs (p : Value × Nat) => cs.setIfInBounds (off + p.2) p.1) cells = r at hf ⊢
          refine fill_rel ps qs r _ ds (by simpa using hl) (fun k p q h1 h2 => hr (k + 1) p q h1 h2) ?_ h
          obtain ⟨f1, f2⟩ := hf
          have hlv : v.cells.toList.length = vs.length := by simpa using hcv.1
          refine ⟨by simp [f1, hc.1]; omega, fun k y hy => ?_⟩
          rw [f2 k, hlv, hc.1]
          simp only [Nat.add_zero]
          rw [List.append_assoc, List.getElem?_append] at hy
          simp only [List.length_take, Nat.min_eq_left (by omega : off ≤ cs.length)] at hy
          by_cases h1 : k < off
          · rw [if_pos h1, List.getElem?_take, if_pos h1] at hy
            rw [if_neg (by omega)]
            exact hc.2 k y hy
          · rw [if_neg h1, List.getElem?_append] at hy
            by_cases h2 : k - off < vs.length
            · rw [if_pos h2] at hy
              rw [if_pos (by omega)]
              obtain ⟨u, h3, h4⟩ := hcv.2 _ y hy
              exact ⟨u, by simpa using h3, h4⟩
            · rw [if_neg h2, List.getElem?_drop] at hy
              rw [if_neg (by omega)]
              rw [show off + vs.length + (k - off - vs.length) = k by omega] at hy
              exact hc.2 k y hy
  | [], _ :: _, _, _, _, hl, _, _, _ => by simp at hl
  | _ :: _, [], _, _, _, hl, _, _, _ => by simp at hl

def partsS (s : St) : List (Nat × Operand) → Option (List (Nat × SV))
  | [] => some []
  | (i, x) :: l => match opd s x, partsS s l with
    | some v, some r => some ((i, v) :: r)
    | _, _ => none
theorem partsS_spec {s : St} : ∀ (l : List (Nat × Operand)) (r : List (Nat × SV)), partsS s l = some r → l.length = r.length ∧ ∀ (i : Nat) (p : Nat × Operand) (q : Nat × SV), l[i]? = some p → r[i]? = some q → p.1 = q.1 ∧ opd s p.2 = some q.2
  | [], r, h => by cases h; exact ⟨rfl, fun i p q h1 => by simp at h1⟩
  | (i, x) :: l, r, h => by
    simp only [partsS] at h
    split at h
    · rename_i v r' hv hr
      cases h
      obtain ⟨h1, h2⟩ := partsS_spec l r' hr
      refine ⟨by simp [h1], fun k p q hp hq => ?_⟩
      cases k with
      | zero => cases hp; cases hq; exact ⟨rfl, hv⟩
      | succ k => exact h2 k p q hp hq
    · cases h

/-- where the parts of a struct or an array lie; its zero -/
def placeOf (P : Program) (t : TypeId) : Option ((Nat → Option (Nat × Nat)) × List SC) :=
  match P.info? t, P.underlying t with
  | some it, some (.array _ e) => match it.zero, P.info? e with
    | some z, some ie => some (fun i => some (i * ie.size, ie.size), z.cells.toList.map SC.lit)
    | _, _ => none
  | some it, some (.struct fields) => match it.zero, fields.toList.mapM (fun f => (P.info? f.type).map fun i => (f.offset, i.size)) with
    | some z, some places => some ((places.toArray[·]?), z.cells.toList.map SC.lit)
    | _, _ => none
  | _, _ => none
def buildS (P : Program) (s : St) (t : TypeId) (parts : List (Nat × Operand)) : Option SV := match placeOf P t, partsS s parts with
  | some (pl, z), some ps => match fillS pl z ps with
    | some cs => some (.agg cs)
    | none => none
  | _, _ => none
theorem lits_rel (rd : Rd) (g : Env) (vs : Array Value) : CsRel rd g vs (vs.toList.map SC.lit) := by
  refine ⟨by simp, fun j y hy => ?_⟩
  rw [List.getElem?_map] at hy
  obtain ⟨u, hu, rfl⟩ := Option.map_eq_some_iff.1 hy
  exact ⟨u, by simpa using hu, .lit u⟩
theorem parts_mem {parts : Array (Nat × Operand)} {i : Nat} {p : Nat × Operand} (h : parts.toList[i]? = some p) : p.2 ∈ (parts.toList.map (·.2)).toArray.toList := by
  simp only [List.mem_map]
  exact ⟨p, List.mem_of_getElem? h, rfl⟩
theorem parts_rel {g : Env} {rd : Rd} {a : Act} {w : World} {s : St} {o : Oper} (hv : OView g rd a w s o) {parts : Array (Nat × Operand)} {ps : List (Nat × SV)} (hps : partsS s parts.toList = some ps) (hm : ∀ (i : Nat) (p : Nat × Operand), parts.toList[i]? = some p → p.2 ∈ o.op.operands.toList) :
    ((parts.map fun (i, x) => (i, a.eval x)).toList).length = ps.length ∧ ∀ (i : Nat) (p : Nat × Value) (q : Nat × SV), ((parts.map fun (i, x) => (i, a.eval x)).toList)[i]? = some p → ps[i]? = some q → p.1 = q.1 ∧ VRel rd g p.2 q.2 := by
  obtain ⟨h1, h2⟩ := partsS_spec _ _ hps
  refine ⟨by simpa using h1, fun i p q hp hq => ?_⟩
  rw [Array.toList_map, List.getElem?_map] at hp
  obtain ⟨p0, hp0, rfl⟩ := Option.map_eq_some_iff.1 hp
  obtain ⟨h3, h4⟩ := h2 i p0 q hp0 hq
  exact ⟨h3, hv.op _ _ (hm i p0 hp0) h4⟩
theorem pure_build {P : Program} {o : Oper} {s : St} {v : SV} {t : TypeId} {parts : Array (Nat × Operand)} (ho : o.op = .build t parts) (hv : buildS P s t parts.toList = some v) : PureOp P o s v := by
  intro g rd a w hview
  unfold buildS at hv
  split at hv
  · rename_i pl z ps hpl hps
    split at hv
    · rename_i cs hcs
      cases hv
      obtain ⟨l1, l2⟩ := parts_rel hview hps (fun i p hp => by rw [ho]; simp only [Op.operands]; exact parts_mem hp)
      have key : ∀ zv : Array Value, zv.toList.map SC.lit = z → ∃ r, Instr.fill pl zv (parts.map fun (i, x) => (i, a.eval x)).toList = some r ∧ CsRel rd g r cs := fun zv hz => by
        subst hz
        exact fill_rel _ ps zv _ cs l1 l2 (lits_rel rd g zv) hcs
      have hb : ∃ r, P.built t (parts.map fun (i, x) => (i, a.eval x)).toList = some r ∧ CsRel rd g r cs := by
        unfold placeOf at hpl
        unfold Program.built
        cases hit : P.info? t with
        | none => simp [hit] at hpl
        | some it =>
          cases hu : P.underlying t with
          | none => simp [hit, hu] at hpl
          | some d =>
            cases d <;> simp only [hit, hu, reduceCtorEq] at hpl ⊢
            case array n e =>
              cases hz : it.zero with
              | none => simp [hz] at hpl
              | some zv =>
                cases hie : P.info? e with
                | none => simp [hz, hie] at hpl
                | some ie =>
                  simp only [hz, hie, Option.some.injEq, Prod.mk.injEq] at hpl ⊢
                  obtain ⟨rfl, h2⟩ := hpl
                  exact key _ h2
            case struct fs =>
              cases hz : it.zero with
              | none => simp [hz] at hpl
              | some zv =>
                cases hie : fs.toList.mapM (fun f => (P.info? f.type).map fun i => (f.offset, i.size)) with
                | none => simp [hz, hie] at hpl
                | some places =>
                  simp only [hz, hie, Option.some.injEq, Prod.mk.injEq] at hpl ⊢
                  obtain ⟨rfl, h2⟩ := hpl
                  exact key _ h2
      obtain ⟨r, hb1, hb2⟩ := hb
      exact ⟨.agg r, by simp [execOp, ho, run_build w t _ _ hb1], r, rfl, hb2⟩
    · cases hv
  · cases hv
def eqF (P : Program) (rec : TypeId → List SC → List SC → Option Bool) : List Field → List SC → List SC → Option Bool
  | [], _, _ => some true
  | f :: fs, cs, ds => if f.name = "_" then none else match P.info? f.type with
    | none => none
    | some i => if i.size ≤ (cs.drop f.offset).length ∧ i.size ≤ (ds.drop f.offset).length ∧ 0 < i.size ∧ (aggT P f.type = false → i.size = 1) then
        match rec f.type ((cs.drop f.offset).take i.size) ((ds.drop f.offset).take i.size), eqF P rec fs cs ds with
        | some a, some b => some (a && b)
        | _, _ => none
      else none
def eqI (P : Program) (rec : TypeId → List SC → List SC → Option Bool) (e : TypeId) (c : Nat) : List Nat → List SC → List SC → Option Bool
  | [], _, _ => some true
  | j :: js, cs, ds => if c ≤ (cs.drop (j * c)).length ∧ c ≤ (ds.drop (j * c)).length ∧ 0 < c ∧ (aggT P e = false → c = 1) then
      match rec e ((cs.drop (j * c)).take c) ((ds.drop (j * c)).take c), eqI P rec e c js cs ds with
      | some a, some b => some (a && b)
      | _, _ => none
    else none
/-- equality of values that hold numbers and bools alone, by their type -/
def eqT (P : Program) : Nat → TypeId → List SC → List SC → Option Bool
  | 0, _, _, _ => none
  | d + 1, t, cs, ds => match P.underlying t with
    | some .bool => match cs, ds with
      | .lit (.bool a) :: _, .lit (.bool b) :: _ => some (a == b)
      | _, _ => none
    | some (.int _) => match cs, ds with
      | .lit (.int k a) :: _, .lit (.int k' b) :: _ => if k = k' then some (a == b) else none
      | _, _ => none
    | some (.struct fs) => if P.stoodInHeld t then none else eqF P (eqT P d) fs.toList cs ds
    | some (.array n e) => match P.info? e with
      | some i => eqI P (eqT P d) e i.size (List.range n) cs ds
      | none => none
    | _ => none

/-- a value of a type, with these cells -/
def Formed (P : Program) (rd : Rd) (g : Env) (t : TypeId) (x : Value) (cs : List SC) : Prop :=
  if aggT P t then ∃ xs, x = .agg xs ∧ CsRel rd g xs cs else ∃ c, cs = [c] ∧ CRel rd g x c

theorem run_part_sh {P : Program} {w : World} {rd : Rd} {g : Env} {t : TypeId} {d : TypeDesc} {i : TypeInfo} {xs : Array Value} {cs : List SC} {off : Nat} (hd : P.underlying t = some d) (hi : P.info? t = some i) (h1 : aggT P t = false → i.size = 1) (hsz : i.size ≤ (cs.drop off).length) (h0 : 0 < i.size) (h : CsRel rd g xs cs) :
    ∃ a, (part t xs off).run P w = .ok a w ∧ Formed P rd g t a ((cs.drop off).take i.size) := by
  simp only [List.length_drop] at hsz
  unfold Formed
  by_cases hagg : aggT P t = true
  · have hisagg : (isAgg t).run P w = .ok true w := by
      unfold aggT at hagg
      rw [hd] at hagg
      cases d <;> simp only [Bool.false_eq_true] at hagg <;> simp [isAgg, run_underlying hd]
    refine ⟨.agg (xs.extract off (off + i.size)), by simp [part, hisagg, sizeOf, typeInfo, hi], ?_⟩
    rw [if_pos hagg]
    refine ⟨_, rfl, by have := h.1; simp; omega, fun j y hy => ?_⟩
    rw [List.getElem?_take] at hy
    split at hy
    · rename_i hj
      rw [List.getElem?_drop] at hy
      obtain ⟨u, h2, h3⟩ := h.2 _ y hy
      refine ⟨u, ?_, h3⟩
      have := h.1
      rw [Array.getElem?_extract, if_pos (by omega)]
      exact h2
    · cases hy
  · have hagg' : aggT P t = false := by simpa using hagg
    have hisagg : (isAgg t).run P w = .ok false w := by
      unfold aggT at hagg
      rw [hd] at hagg
      cases d <;> simp only [not_true_eq_false] at hagg <;> simp [isAgg, run_underlying hd]
    have hs := h1 hagg'
    obtain ⟨u, h2, h3⟩ := h.2 off cs[off] (List.getElem?_eq_getElem (by omega))
    refine ⟨u, by simp [part, hisagg, h2], ?_⟩
    rw [if_neg hagg, hs]
    refine ⟨cs[off], ?_, h3⟩
    rw [List.drop_eq_getElem_cons (by omega)]
    rfl

theorem eqT_run {P : Program} {rd : Rd} {g : Env} : ∀ (d : Nat) (t : TypeId) (x y : Value) (cs ds : List SC) (r : Bool) (dd : Nat) (w : World), d ≤ dd → Formed P rd g t x cs → Formed P rd g t y ds → eqT P d t cs ds = some r → (Op.equalIn dd t x y).run P w = .ok r w
  | 0, _, _, _, _, _, _, _, _, _, _, _, h => by cases h
  | d + 1, t, x, y, cs, ds, r, 0, w, hdd, hx, hy, h => by omega
  | d + 1, t, x, y, cs, ds, r, dd + 1, w, hdd, hx, hy, h => by
    unfold eqT at h
    split at h
    · rename_i hu
      have hagg : aggT P t = false := by simp [aggT, hu]
      unfold Formed at hx hy
      rw [if_neg (by simp [hagg])] at hx hy
      obtain ⟨c, rfl, hx⟩ := hx
      obtain ⟨c', rfl, hy⟩ := hy
      split at h
      · rename_i h1 h2
        cases h1; cases h2; cases h
        cases hx; cases hy
        exact run_equalIn_bool w dd t _ _ hu
      · cases h
    · rename_i k0 hu
      have hagg : aggT P t = false := by simp [aggT, hu]
      unfold Formed at hx hy
      rw [if_neg (by simp [hagg])] at hx hy
      obtain ⟨c, rfl, hx⟩ := hx
      obtain ⟨c', rfl, hy⟩ := hy
      split at h
      · rename_i h1 h2
        split at h
        · rename_i hk
          cases h1; cases h2; cases h
          subst hk
          cases hx; cases hy
          exact run_equalIn_int w dd t _ k0 _ _ hu
        · cases h
      · cases h
    · rename_i fs hu
      have hagg : aggT P t = true := by simp [aggT, hu]
      unfold Formed at hx hy
      rw [if_pos hagg] at hx hy
      obtain ⟨xs, rfl, hx⟩ := hx
      obtain ⟨ys, rfl, hy⟩ := hy
      split at h
      · cases h
      · rename_i hst
        have hf : P.fieldsOf t = fs := by simp [Program.fieldsOf, hu]
        rw [run_equalIn_struct w dd t xs ys (by rw [hf]; exact hu) (by simpa using hst), hf]
        clear hu hf
        generalize fs.toList = l at h
        induction l generalizing r with
        | nil => cases h; simp [Op.eqFields]
        | cons f l ih =>
          simp only [eqF] at h
          split at h
          · cases h
          · rename_i hn
            split at h
            · cases h
            · rename_i i hi
              split at h
              · rename_i hc
                split at h
                · rename_i a b ha hb
                  cases h
                  have hd' : ∃ dsc, P.underlying f.type = some dsc := by
                    cases hu : P.underlying f.type with
                    | some dsc => exact ⟨dsc, rfl⟩
                    | none =>
                      exfalso
                      cases d with
                      | zero => cases ha
                      | succ d => simp [eqT, hu] at ha
                  obtain ⟨dsc, hdsc⟩ := hd'
                  obtain ⟨u1, p1, f1⟩ := run_part_sh (w := w) hdsc hi hc.2.2.2 hc.1 hc.2.2.1 hx
                  obtain ⟨u2, p2, f2⟩ := run_part_sh (w := w) hdsc hi hc.2.2.2 hc.2.1 hc.2.2.1 hy
                  have e1 := eqT_run d f.type u1 u2 _ _ a dd w (by omega) f1 f2 ha
                  have e2 := ih b hb
                  simp only [Op.eqFields, ne_eq, hn, not_false_eq_true, if_true, Sem.run_bind, p1, p2, e1, Result.andThen_ok]
                  cases a
                  · simp
                  · simpa using e2
                · cases h
              · cases h
    · rename_i n e hu
      have hagg : aggT P t = true := by simp [aggT, hu]
      unfold Formed at hx hy
      rw [if_pos hagg] at hx hy
      obtain ⟨xs, rfl, hx⟩ := hx
      obtain ⟨ys, rfl, hy⟩ := hy
      split at h
      · rename_i i hi
        rw [run_equalIn_array w dd xs ys hu hi]
        have hco : P.cellsOf e = i.size := by simp [Program.cellsOf, hi]
        rw [hco]
        clear hu
        generalize List.range n = l at h
        induction l generalizing r with
        | nil => cases h; simp [Op.eqItems]
        | cons j l ih =>
          simp only [eqI] at h
          split at h
          · rename_i hc
            split at h
            · rename_i a b ha hb
              cases h
              have hd' : ∃ dsc, P.underlying e = some dsc := by
                cases hu : P.underlying e with
                | some dsc => exact ⟨dsc, rfl⟩
                | none =>
                  exfalso
                  cases d with
                  | zero => cases ha
                  | succ d => simp [eqT, hu] at ha
              obtain ⟨dsc, hdsc⟩ := hd'
              obtain ⟨u1, p1, f1⟩ := run_part_sh (w := w) hdsc hi hc.2.2.2 hc.1 hc.2.2.1 hx
              obtain ⟨u2, p2, f2⟩ := run_part_sh (w := w) hdsc hi hc.2.2.2 hc.2.1 hc.2.2.1 hy
              have e1 := eqT_run d e u1 u2 _ _ a dd w (by omega) f1 f2 ha
              have e2 := ih b hb
              simp only [Op.eqItems, Sem.run_bind, p1, p2, e1, Result.andThen_ok]
              cases a
              · simp
              · simpa using e2
            · cases h
          · cases h
      · cases h
    · cases h

theorem pure_agg {P : Program} {o : Oper} {s : St} {op : BinOp} {t t' : TypeId} {x y : Operand} {v : SV} (cs ds : List SC) (r : Bool) (ho : o.op = .binOp op t x y t') (hx : opd s x = some (.agg cs)) (hy : opd s y = some (.agg ds)) (hg : P.eqGuardType P.depth t = false) (hagg : aggT P t = true)
    (h : eqT P 40 t cs ds = some r) (hv : (op = .eql ∧ v = bool r) ∨ (op = .neq ∧ v = bool !r)) : PureOp P o s v := by
  intro g rd a w hview
  have h1 := hview.op _ _ (by simp [ho, Op.operands]) hx
  have h2 := hview.op _ _ (by simp [ho, Op.operands]) hy
  obtain ⟨xs, hx1, hx2⟩ := h1
  obtain ⟨ys, hy1, hy2⟩ := h2
  have he := eqT_run (rd := rd) (g := g) 40 t (.agg xs) (.agg ys) cs ds r 10000 w (by decide) (by unfold Formed; rw [if_pos hagg]; exact ⟨xs, rfl, hx2⟩) (by unfold Formed; rw [if_pos hagg]; exact ⟨ys, rfl, hy2⟩) h
  rcases hv with ⟨rfl, rfl⟩ | ⟨rfl, rfl⟩
  · refine ⟨.bool r, ?_, lit_rel _ _ _⟩
    simp only [execOp, ho, hx1, hy1, Sem.run_bind, run_eqGuard_agg w .eql t x y xs ys hg, Result.andThen_ok, run_eql_struct, he, Sem.run_pure]
  · refine ⟨.bool (!r), ?_, lit_rel _ _ _⟩
    simp only [execOp, ho, hx1, hy1, Sem.run_bind, run_eqGuard_agg w .neq t x y xs ys hg, Result.andThen_ok, run_neq_struct, he, Sem.run_pure]
def binS (P : Program) (op : BinOp) (t : TypeId) : SV → SV → Option SV
  | .c (.lit (.int k m)), .c (.lit (.int k' n)) => match op with
    | .shl => if decide (0 ≤ n) then some (int k (ishl k m n)) else none
    | .shr => if decide (0 ≤ n) then some (int k (ishr k m n)) else none
    | .quo => if k' = k then (if decide (n ≠ 0) then some (int k (iquo k m n)) else none) else none
    | .rem => if k' = k then (if decide (n ≠ 0) then some (int k (m.tmod n)) else none) else none
    | op => if k' = k then intBin op k m n else none
  | .c (.lit (.bool m)), .c (.lit (.bool n)) => match P.underlying t with
    | some .bool => match op with
      | .eql => some (bool (m == n))
      | .neq => some (bool !(m == n))
      | _ => none
    | _ => none
  | .agg cs, .agg ds => if aggT P t && !(P.eqGuardType P.depth t) then match eqT P 40 t cs ds with
      | some r => match op with
        | .eql => some (bool r)
        | .neq => some (bool !r)
        | _ => none
      | none => none
    else none
  | _, _ => none
theorem binS_ok {P : Program} {o : Oper} {s : St} {v a b : SV} {op : BinOp} {t t' : TypeId} {x y : Operand} (ho : o.op = .binOp op t x y t') (hx : opd s x = some a) (hy : opd s y = some b) (h : binS P op t a b = some v) : PureOp P o s v := by
  unfold binS at h
  split at h
  · rename_i k m k' n
    split at h
    · split at h
      · rename_i hn; cases h
        exact pure_intC m n (.inl rfl) ho hx hy rfl (of_decide_eq_true hn)
      · cases h
    · split at h
      · rename_i hn; cases h
        exact pure_intC m n (.inr (.inl rfl)) ho hx hy rfl (of_decide_eq_true hn)
      · cases h
    · split at h
      · rename_i hk
        split at h
        · rename_i hn; cases h
          exact pure_intC m n (.inr (.inr hk)) ho hx hy rfl (of_decide_eq_true hn)
        · cases h
      · cases h
    · split at h
      · rename_i hk
        split at h
        · rename_i hn; cases h
          exact pure_intC m n (.inr (.inr hk)) ho hx hy rfl (of_decide_eq_true hn)
        · cases h
      · cases h
    · split at h
      · rename_i hk
        subst hk
        exact pure_int m n ho hx hy h
      · cases h
  · rename_i m n
    split at h
    · rename_i hu
      split at h
      · cases h; exact pure_boolEq m n _ ho hx hy hu (.inl ⟨rfl, rfl⟩)
      · cases h; exact pure_boolEq m n _ ho hx hy hu (.inr ⟨rfl, rfl⟩)
      · cases h
    · cases h
  · rename_i cs ds
    split at h
    · rename_i hc
      simp only [Bool.and_eq_true, Bool.not_eq_true'] at hc
      split at h
      · rename_i r hr
        split at h
        · cases h; exact pure_agg cs ds r ho hx hy hc.2 hc.1 hr (.inl ⟨rfl, rfl⟩)
        · cases h; exact pure_agg cs ds r ho hx hy hc.2 hc.1 hr (.inr ⟨rfl, rfl⟩)
        · cases h
      · cases h
    · cases h
  · cases h

/-- the length of a slice -/
def lenS (s : St) : SV → Option Nat
  | .c (.slc _ _ N _) => some N
  | .c (.lit (.slice none 0 0)) => some 0
  | .c (.own d) => match look s.hp d with
    | some (.row _ _ n _) => some n
    | _ => none
  | .c (.row _ n) => some n
  | .c (.win _ _ n) => some n
  | .c (.sub _ _ _ n) => some n
  | _ => none
theorem lenS_rel {s : St} {v : SV} {N : Nat} (h : lenS s v = some N) {g : Env} {rd : Rd} {a : Act} {w : World} {o : Oper} (hv : OView g rd a w s o) {u : Value} (hu : VRel rd g u v) : ∃ A c, u = .slice A N c := by
  unfold lenS at h
  split at h
  · cases h
    obtain ⟨h1, _⟩ := hu
    cases h1 with
    | nil => exact ⟨_, _, rfl⟩
    | slc => exact ⟨_, _, rfl⟩
  · cases h
    exact ⟨_, _, rel_lit hu⟩
  · rename_i d
    split at h
    · rename_i e sz n xs hl
      cases h
      obtain ⟨rfl, _⟩ := hu
      obtain ⟨us, h1, _⟩ := hv.holds d _ hl
      rcases h1.2 with ⟨h2, h3⟩ | ⟨gb, cap, cur, h2, _⟩
      · rw [h2, h3]; exact ⟨_, _, rfl⟩
      · exact ⟨_, _, h2⟩
    · cases h
  · cases h
    obtain ⟨A, N', c, _, h2, _⟩ := hu
    exact ⟨_, _, h2⟩
  · cases h
    obtain ⟨A, c, h2, _⟩ := hu
    exact ⟨_, _, h2⟩
  · cases h
    obtain ⟨_, _, _, _, _, _, _, h2, _⟩ := hu
    exact ⟨_, _, h2⟩
  · cases h
def callS (P : Program) (s : St) (c : Call) : Option SV := match c.callee with
  | .builtin .len => match c.args.toList, c.argTypes.toList with
    | [x], [t] => match opd s x, P.underlying t with
      | some v, some (.slice _) => match lenS s v with
        | some N => some (int .i64 N)
        | none => none
      | _, _ => none
    | _, _ => none
  | .builtin .min => match c.args.toList with
    | [x, y] => match opd s x, opd s y with
      | some (.c (.lit (.int k m))), some (.c (.lit (.int k' n))) => if k' = k then some (int k (if n < m then n else m)) else none
      | _, _ => none
    | _ => none
  | .builtin .max => match c.args.toList with
    | [x, y] => match opd s x, opd s y with
      | some (.c (.lit (.int k m))), some (.c (.lit (.int k' n))) => if k' = k then some (int k (if m < n then n else m)) else none
      | _, _ => none
    | _ => none
  | _ => none
theorem callS_ok {P : Program} {o : Oper} {s : St} {v : SV} {c : Call} (ho : o.op = .call c) (h : callS P s c = some v) : PureOp P o s v := by
  obtain ⟨callee, args, ts⟩ := c
  unfold callS at h
  simp only at h
  split at h
  · split at h
    · rename_i x t ha ht
      have ha' : args = #[x] := by rw [← Array.toArray_toList (xs := args), ha]
      have ht' : ts = #[t] := by rw [← Array.toArray_toList (xs := ts), ht]
      subst ha' ht'
      split at h
      · rename_i v' e hx hu
        split at h
        · rename_i N hN
          cases h
          exact pure_lenAny N ho hx hu (fun g rd a w hv => lenS_rel hN hv (hv.op _ _ (by simp [ho, Op.operands, Call.operands]) hx))
        · cases h
      · cases h
    · cases h
  · split at h
    · rename_i x y ha
      have ha' : args = #[x, y] := by rw [← Array.toArray_toList (xs := args), ha]
      subst ha'
      split at h
      · rename_i k m k' n hx hy
        split at h
        · rename_i hk; subst hk; cases h; exact pure_min m n ho hx hy
        · cases h
      · cases h
    · cases h
  · split at h
    · rename_i x y ha
      have ha' : args = #[x, y] := by rw [← Array.toArray_toList (xs := args), ha]
      subst ha'
      split at h
      · rename_i k m k' n hx hy
        split at h
        · rename_i hk; subst hk; cases h; exact pure_max m n ho hx hy
        · cases h
      · cases h
    · cases h
  · cases h
theorem part_rel {P : Program} {w : World} {rd : Rd} {g : Env} {t : TypeId} {cs : List SC} {vs : Array Value} {off : Nat} {v : SV} (hw : wrapT P t (cs.drop off) = some v) (h : CsRel rd g vs cs) : ∃ u, (part t vs off).run P w = .ok u w ∧ VRel rd g u v := by
  unfold wrapT at hw
  split at hw
  rotate_left
  · cases hw
  rename_i d i hd hi
  split at hw
  · rename_i hagg
    split at hw
    · rename_i hsz
      cases hw
      have hia : (isAgg t).run P w = .ok true w := by
        unfold aggT at hagg
        rw [hd] at hagg
        cases d <;> simp_all [isAgg, run_underlying hd]
      refine ⟨.agg (vs.extract off (off + i.size)), by simp [part, hia, sizeOf, typeInfo, hi], _, rfl, ?_, fun j y hy => ?_⟩
      · rw [List.length_take, Array.size_extract, h.1]
        rw [List.length_drop] at hsz ⊢
        omega
      · rw [List.getElem?_take] at hy
        split at hy
        · rename_i hj
          rw [List.getElem?_drop] at hy
          obtain ⟨u, h1, h2⟩ := h.2 _ y hy
          refine ⟨u, ?_, h2⟩
          rw [Array.getElem?_extract, if_pos]
          · exact h1
          · rw [List.length_drop] at hsz
            have := h.1
            omega
        · cases hy
    · cases hw
  · rename_i hagg
    split at hw
    · rename_i x rest hc
      cases hw
      have hia : (isAgg t).run P w = .ok false w := by
        unfold aggT at hagg
        rw [hd] at hagg
        cases d <;> simp_all [isAgg, run_underlying hd]
      have hx : cs[off]? = some x := by
        have := congrArg (fun l : List SC => l[0]?) hc
        simpa [List.getElem?_drop] using this
      obtain ⟨u, h1, h2⟩ := h.2 off x hx
      exact ⟨u, by simp [part, hia, h1], h2⟩
    · cases hw
theorem pure_field {P : Program} {o : Oper} {s : St} {v : SV} {t : TypeId} {x : Operand} {k : Nat} {cs : List SC} {fs : Array Field} {f : Field} (ho : o.op = .field t x k) (hx : opd s x = some (.agg cs)) (hu : P.underlying t = some (.struct fs)) (hf : fs[k]? = some f) (h : wrapT P f.type (cs.drop f.offset) = some v) : PureOp P o s v := by
  intro g rd A w hview
  obtain ⟨vs, h1, h2⟩ := hview.op x _ (by simp [ho, Op.operands]) hx
  obtain ⟨u, h3, h4⟩ := part_rel (w := w) h h2
  exact ⟨u, by simp [execOp, ho, h1, Instr.field, run_underlying hu, hf, asAgg, h3], h4⟩
def sop (P : Program) (s : St) : Op → Option SV
  | .move x => opd s x
  | .assign x => opd s x
  | .pick c x y => match opd s c with
    | some (.c (.lit (.bool true))) => opd s x
    | some (.c (.lit (.bool false))) => opd s y
    | _ => none
  | .binOp op t x y _ => match opd s x, opd s y with
    | some a, some b => binS P op t a b
    | _, _ => none
  | .unOp op _ x => match opd s x with
    | some a => unSV op a
    | none => none
  | .convert t t' x => match opd s x, P.underlying t, P.underlying t' with
    | some (.c (.lit (.int k n))), some (.int k0), some (.int k') => if k0 = k then some (int k' (k'.wrap n)) else none
    | _, _, _ => none
  | .load t x => match opd s x with
    | some p => match cellsAt s p with
      | some cs => wrapT P t cs
      | none => none
    | none => none
  | .fieldAddr t x k => match opd s x, fieldOf P t k with
    | some p, some n => shift n p
    | _, _ => none
  | .indexAddr t x y => match opd s x, opd s y, P.underlying t with
    | some p, some (.c (.lit (.int _ i))), some (.array m e) => match P.info? e with
      | some ie => if decide (0 ≤ i ∧ i < m) then shift (i.toNat * ie.size) p else none
      | none => none
    | _, _, _ => none
  | .nilCheck x => match opd s x with
    | some v => if (cellsAt s v).isSome then some v else none
    | none => none
  | .call c => callS P s c
  | .extract x k => match opd s x with
    | some (.tup vs) => match vs[k]? with
      | some (true, cs) => some (.agg cs)
      | some (false, z :: _) => some (.c z)
      | _ => none
    | _ => none
  | .build t parts => buildS P s t parts.toList
  | .field t x k => match opd s x, P.underlying t with
    | some (.agg cs), some (.struct fs) => match fs[k]? with
      | some f => wrapT P f.type (cs.drop f.offset)
      | none => none
    | _, _ => none
  | _ => none

theorem sop_ok {P : Program} {o : Oper} {s : St} {v : SV} (h : sop P s o.op = some v) : PureOp P o s v := by
  unfold sop at h
  split at h
  · rename_i x ho; exact pure_move (.inl ho) h
  · rename_i x ho; exact pure_move (.inr ho) h
  · rename_i c x y ho
    split at h
    · rename_i hc; exact pure_pick true ho hc h
    · rename_i hc; exact pure_pick false ho hc h
    · cases h
  · rename_i op t x y t' ho
    split at h
    · rename_i a b hx hy; exact binS_ok ho hx hy h
    · cases h
  · rename_i op t x ho
    split at h
    · rename_i a hx; exact pure_un ho hx h
    · cases h
  · rename_i t t' x ho
    split at h
    · rename_i k n k0 k' hx h1 h2
      split at h
      · rename_i hk; subst hk; cases h; exact pure_conv k' n ho hx h1 h2
      · cases h
    · cases h
  · rename_i t x ho
    split at h
    · rename_i p hx
      split at h
      · rename_i cs hcs; exact pure_load ho hx hcs h
      · cases h
    · cases h
  · rename_i t x k ho
    split at h
    · rename_i p n hx hn; exact pure_fieldAddr ho hx hn h
    · cases h
  · rename_i t x y ho
    split at h
    · rename_i p k i m e hx hy hu
      split at h
      · rename_i ie hie
        split at h
        · rename_i hi
          have hi' := of_decide_eq_true hi
          exact pure_indexArr m ie.size i _ ho hx hy hu (by rw [hie]; rfl) hi'.1 hi'.2 rfl h
        · cases h
      · cases h
    · cases h
  · rename_i x ho
    split at h
    · rename_i u hx
      split at h
      · rename_i hc; cases h; exact pure_nilCheck ho hx hc
      · cases h
    · cases h
  · rename_i c ho; exact callS_ok ho h
  · rename_i x k ho
    split at h
    · rename_i vs hx
      split at h
      · rename_i cs hk; cases h; exact pure_extract vs _ ho hx hk (by simp)
      · rename_i z zs hk; cases h; exact pure_extract vs _ ho hx hk (by simp)
      · cases h
    · cases h
  · rename_i t parts ho; exact pure_build ho h
  · rename_i t x k ho
    split at h
    · rename_i cs fs hx hu
      split at h
      · rename_i f hf; exact pure_field ho hx hu hf h
      · cases h
    · cases h
  · cases h
end
section
open Go.RowKit

theorem Res.map_id (r : Res) : r.map (fun y => y) = r := by cases r <;> simp [Res.map]
theorem Res.every_true (r : Res) : r.every (fun _ => true) = true := by cases r <;> simp [Res.every]

section
variable {K : Ctx} {g g' : Env} {w w' : World} {h h' : Hp}
/-- one name is touched, nothing is said anew of the rest -/
theorem HG.step1 (k : HG K g w h) (d0 : Nat) (p : Nat → Bool) (he : ∀ d, d ≠ d0 → g'.pos d = g.pos d ∧ g'.tk d = g.tk d) (hp : ∀ d, p d = true → g'.pos d = g.pos d ∧ g'.tk d = g.tk d)
    (hl : ∀ d, d ≠ d0 → look h' d = look h d) (hok : ∀ d r, d ≠ d0 → look h d = some r → r.every (SC.say p) = true)
    (hk : Keep w (fun b o => ∃ r, look h d0 = some r ∧ Foot g d0 r b o) w')
    (hf : ∀ r b o, look h' d0 = some r → Foot g' d0 r b o → (∃ r0, look h d0 = some r0 ∧ Foot g d0 r0 b o) ∨ w.heap.size ≤ b)
    (hh : (rdOf K g h w).le (rdOf K g' h' w') → ∀ r, look h' d0 = some r → Holds (rdOf K g' h' w') g' w' d0 r)
    (hfix : 1000000 ≤ d0 → g'.pos d0 = g.pos d0 ∧ ∀ cs, look h' d0 = some (.box cs) → ∃ cs0, look h d0 = some (.box cs0))
    (hnew : ∀ r, look h' d0 = some r → r.isBox = false → ∀ b o, Foot g' d0 r b o → K.w0.heap.size ≤ b ∨ K.may b o) : HG K g' w' h' ∧ (rdOf K g h w).le (rdOf K g' h' w') := by
  have ht : ∀ d, (d == d0) = false → d ≠ d0 := fun d h => by simpa using h
  have ht' : ∀ d, (d == d0) = true → d = d0 := fun d h => by simpa using h
  have hk' : Keep w (fun b o => ∃ d r, (d == d0) = true ∧ look h d = some r ∧ Foot g d r b o) w' := hk.weak (fun b o ⟨r, h1, h2⟩ => ⟨d0, r, by simp, h1, h2⟩)
  have hf' : ∀ d r b o, (d == d0) = true → look h' d = some r → Foot g' d r b o → (∃ e r0, (e == d0) = true ∧ look h e = some r0 ∧ Foot g e r0 b o) ∨ w.heap.size ≤ b := by
    intro d r b o h1 h2 h3
    have := ht' d h1; subst this
    rcases hf r b o h2 h3 with ⟨r0, h4, h5⟩ | h4
    · exact .inl ⟨d, r0, by simp, h4, h5⟩
    · exact .inr h4
  have hle := rd_step (K := K) (g := g) (g' := g') (w := w) (w' := w') (h := h) (h' := h') k (· == d0) (fun d r h1 _ => he d (ht d h1)) (fun d r' h1 h2 => ⟨r', fun y => y, by rw [← hl d (ht d h1)]; exact h2, r'.map_id.symm⟩) hk' hf'
  refine ⟨k.step (g' := g') (w' := w') (h' := h') (· == d0) (fun y => y) (SC.say p) (fun d r h1 _ => he d (ht d h1)) (fun d r' h1 h2 => ?_) hk' hf' ?_ (fun u x hx hc => hc.env hle p hp hx) ?_ ?_ ?_, hle⟩
  · have h3 : look h d = some r' := by rw [← hl d (ht d h1)]; exact h2
    exact ⟨r', h3, r'.map_id.symm, hok d r' (ht d h1) h3⟩
  · intro d d' r r' b o h1 h2 hne
    exact absurd ((ht' d h1).trans (ht' d' h2).symm) hne
  · intro d r h1 h2
    have := ht' d h1; subst this
    exact hh hle r h2
  · intro d cs h1 h6 h2
    have := ht' d h1; subst this
    obtain ⟨q1, q2⟩ := hfix h6
    obtain ⟨cs0, h3⟩ := q2 cs h2
    rw [q1]
    exact k.fix d cs0 h6 h3
  · intro d r h1 h2
    have := ht' d h1; subst this
    exact hnew r h2
end

section
variable {K : Ctx} {g g' : Env} {w w' : World} {n : Nat} {a : Act} {s : St}
theorem HG.ext {h : Hp} (k : HG K g w h) (he : Ext w w') : HG K g w' h ∧ (rdOf K g h w).le (rdOf K g h w') := by
  have hk : Keep w (fun b o => ∃ d r, false = true ∧ look h d = some r ∧ Foot g d r b o) w' := (Keep.of_ext he).weak (fun _ _ x => x.elim)
  have hle := rd_step (K := K) (g := g) (g' := g) (w := w) (w' := w') (h := h) (h' := h) k (fun _ => false) (fun _ _ _ _ => ⟨rfl, rfl⟩) (fun d r' _ h2 => ⟨r', fun y => y, h2, r'.map_id.symm⟩) hk (fun _ _ _ _ h => by cases h)
  exact ⟨k.step (g' := g) (w' := w') (h' := h) (fun _ => false) (fun y => y) (fun _ => true) (fun _ _ _ _ => ⟨rfl, rfl⟩) (fun d r' _ h2 => ⟨r', h2, r'.map_id.symm, r'.every_true⟩) hk (fun _ _ _ _ h => by cases h) (fun _ _ _ _ _ _ h => by cases h) (fun u x _ hc => hc.mono hle) (fun _ _ h => by cases h) (fun _ _ h => by cases h) (fun _ _ h => by cases h), hle⟩
theorem HG.sees {h : Hp} (k : HG K g w h) : Sees w (rdOf K g h w') w' := by
  intro b o u hb hc
  refine rdOf_sees (g' := g) (h' := h) k (may := fun _ _ => False) (fun _ _ h => h.elim) b o u (.inl hb) ?_ hc
  rintro ⟨d, r, h1, h2⟩
  have := (k.holds d r h1).lt h2
  omega
theorem RG.ext (h : RG K g n a w s) (he : Ext w w') : RG K g n a w' s :=
  let ⟨k, hle⟩ := h.hg.ext he; ⟨h.defers, h.size, h.few, k, fun t v hv => let ⟨u, h1, h2⟩ := h.tmps t v hv; ⟨u, h1, h2.mono hle⟩⟩
theorem look_put {s : St} {d : Tmp} {v : SV} {t : Nat} : look (s.put (some d) v).tmps t = if d = t then some v else look s.tmps t := look_setL d v s.tmps t
theorem RG.put (h : RG K g n a w s) (d : Option Tmp) (hd : ∀ t, d = some t → t < n) {u : Value} {v : SV} (hv : VRel (rdOf K g s.hp w) g u v) : RG K g n (a.put d u) w (s.put d v) := by
  cases d with
  | none => exact h
  | some d =>
    refine ⟨h.defers, by simp [Act.put, h.size], h.few, h.hg, fun t x hx => ?_⟩
    have hd2 : d < 2000000 := Nat.lt_of_lt_of_le (hd d rfl) h.few
    rw [look_put] at hx
    simp only [Act.put, slotAt]
    by_cases ht : d = t
    · subst ht
      rw [if_pos rfl] at hx
      cases hx
      exact ⟨u, by rw [if_pos hd2]; simp [h.size, hd d rfl], hv⟩
    · rw [if_neg ht] at hx
      obtain ⟨z, h1, h2⟩ := h.tmps t x hx
      refine ⟨z, ?_, h2⟩
      simp only [slotAt] at h1
      split at h1
      · rename_i h2; rw [if_pos h2]; simp [ht, h1]
      · rename_i h2; rw [if_neg h2]; exact h1
/-- the same state in another world -/
theorem RG.move (h : RG K g n a w s) {h' : Hp} (k : HG K g' w' h') (hle : (rdOf K g s.hp w).le (rdOf K g' h' w')) (p : Nat → Bool) (hp : ∀ d, p d = true → g'.pos d = g.pos d ∧ g'.tk d = g.tk d) (T : List (Nat × SV)) (hT : ∀ t v, look T t = some v → look s.tmps t = some v ∧ v.every (SC.say p) = true) : RG K g' n a w' { tmps := T, hp := h' } :=
  ⟨h.defers, h.size, h.few, k, fun t v hv => let ⟨q1, q2⟩ := hT t v hv; let ⟨u, h1, h2⟩ := h.tmps t v q1; ⟨u, h1, h2.imp1 (fun _v _x hx hc => hc.env hle p hp hx) q2⟩⟩
end

def dstOk (n : Nat) (o : Oper) : Bool := match o.dst with
  | some d => decide (d < n)
  | none => true
theorem dstOk_spec {n : Nat} {o : Oper} (h : dstOk n o = true) : ∀ t, o.dst = some t → t < n := by
  intro t ht
  simpa [dstOk, ht] using h

def guardOf (ops : Array Oper) (o : Oper) (s : St) : Option Bool := match o.guard with
  | none => some true
  | some (j, want) => match ops[j]? with
    | some oj => match oj.dst with
      | some t => match (if t < 2000000 then look s.tmps t else none) with
        | some (.c (.lit (.bool b))) => some (b == want)
        | some (.tup []) => some false
        | _ => none
      | none => none
    | none => none
theorem guard_ok {ops : Array Oper} {o : Oper} {s : St} {b : Bool} {a : Act} (h : guardOf ops o s = some b) (ht0 : ∀ t v, t < 2000000 → look s.tmps t = some v → ∃ u rd g, a.tmps[t]? = some u ∧ VRel rd g u v) : Region.wanted o (yielded ops a.tmps) = b := by
  have ht : ∀ t v, (if t < 2000000 then look s.tmps t else none) = some v → ∃ u rd g, a.tmps[t]? = some u ∧ VRel rd g u v := by
    intro t v h
    split at h
    · rename_i h2; exact ht0 t v h2 h
    · cases h
  unfold guardOf at h
  unfold Region.wanted
  cases hg : o.guard with
  | none => rw [hg] at h; simpa using h
  | some p =>
    obtain ⟨j, want⟩ := p
    rw [hg] at h
    simp only at h ⊢
    split at h
    · rename_i oj hoj
      split at h
      · rename_i t hdst
        split at h
        · rename_i b' hl
          obtain ⟨u, rd, g, h1, h2⟩ := ht t _ hl
          have := rel_lit h2
          subst this
          simp only [yielded, hoj, Option.bind_some, hdst, h1]
          simpa using h
        · rename_i hl
          obtain ⟨u, rd, g, h1, h2⟩ := ht t _ hl
          simp only [VRel] at h2
          obtain ⟨vs, rfl, _⟩ := h2
          simp only [yielded, hoj, Option.bind_some, hdst, h1]
          simpa using h
        · cases h
      · cases h
    · cases h

def Post (K : Ctx) (n : Nat) (Q : Exit → St → Prop) (e : Exit) (a : Act) (w : World) : Prop := ∃ s, R K n a w s ∧ Q e s
def T (P : Program) (K : Ctx) (n : Nat) (c : Code) (s : St) (Q : Exit → St → Prop) : Prop := ∀ a w, R K n a w s → c.wp P (Post K n Q) a w
def TL (P : Program) (K : Ctx) (n : Nat) (ops : Array Oper) (l : List Oper) (s : St) (Q : Exit → St → Prop) : Prop := ∀ a w, R K n a w s → wpList P ops (Post K n Q) l a w
/-- one operation leads from a state to a state -/
def Stp (P : Program) (K : Ctx) (n : Nat) (ops : Array Oper) (o : Oper) (s s' : St) : Prop :=
  ∀ a w, R K n a w s → ∀ (K' : Act → World → Prop) (Q : Exit → Act → World → Prop), (∀ a' w', R K n a' w' s' → K' a' w') → if Region.wanted o (yielded ops a.tmps) then o.wp P a w K' Q else K' (a.put o.dst undef) w

section
variable {P : Program} {K : Ctx} {n : Nat} {ops : Array Oper} {l : List Oper} {o : Oper} {s s' : St} {Q : Exit → St → Prop}
theorem TL_nil (h : Q .normal s) : TL P K n ops [] s Q := fun _ _ r => ⟨s, r, h⟩
theorem TL_stp (h : Stp P K n ops o s s') (ht : TL P K n ops l s' Q) : TL P K n ops (o :: l) s Q := by
  intro a w r
  refine wpList_step fun K' hK => ?_
  exact h a w r K' _ (fun a' w' r' => hK a' w' (ht a' w' r'))
theorem Stp_mk (hgd : guardOf ops o s = some true) (h : ∀ g a w, RG K g n a w s → ∀ (K' : Act → World → Prop) (Q : Exit → Act → World → Prop), (∀ a' w', R K n a' w' s' → K' a' w') → o.wp P a w K' Q) : Stp P K n ops o s s' := by
  intro a w ⟨g, r⟩ K' Q hK
  have hw := guard_ok (a := a) hgd (fun t v ht hv => let ⟨u, h1, h2⟩ := r.view.tmps t v ht hv; ⟨u, _, _, h1, h2⟩)
  rw [if_pos hw]
  exact h g a w r K' Q hK
theorem S_skip (hgd : guardOf ops o s = some false) (hd : dstOk n o = true) : Stp P K n ops o s (s.put o.dst (.tup [])) := by
  intro a w ⟨g, r⟩ K' Q hK
  have hw := guard_ok (a := a) hgd (fun t v ht hv => let ⟨u, h1, h2⟩ := r.view.tmps t v ht hv; ⟨u, _, _, h1, h2⟩)
  rw [if_neg (by rw [hw]; simp)]
  exact hK _ _ ⟨g, r.put o.dst (dstOk_spec hd) ⟨#[], rfl, rfl, fun j x hx => by simp at hx⟩⟩
def GrowOp (P : Program) (o : Oper) (s : St) (v : SV) : Prop :=
  ∀ g rd a w, OView g rd a w s o → mSafe P (fun u w' => ∀ rd', rd.le rd' → Sees w rd' w' → VRel rd' g u v) o a w
theorem PureOp.grow {v : SV} (h : PureOp P o s v) : GrowOp P o s v := by
  intro g rd a w hv
  obtain ⟨u, h1, h2⟩ := h g rd a w hv
  unfold mSafe
  rw [h1]
  exact ⟨Ext.refl w, fun rd' hle _ => h2.mono hle⟩
theorem S_grow (v : SV) (hgd : guardOf ops o s = some true) (hd : dstOk n o = true) (hp : GrowOp P o s v) : Stp P K n ops o s (s.put o.dst v) := by
  refine Stp_mk hgd fun g a w r K' Q hK => ?_
  refine (hp g _ a w (r.view.o o)).wp fun u w' he hu => ?_
  exact hK _ _ ⟨g, (r.ext he).put o.dst (dstOk_spec hd) (hu _ (r.hg.ext he).2 r.hg.sees)⟩
end

def St.noname (s : St) (d : Nat) (ex : Option Nat) : Bool := (look s.hp d).isNone && s.tmps.all (fun p => some p.1 == ex || p.2.every (SC.say (· != d))) && s.hp.all fun p => p.2.every (SC.say (· != d))
theorem noname_spec {s : St} {d : Nat} {ex : Option Nat} (hf : s.noname d ex = true) : look s.hp d = none ∧ (∀ t v, look s.tmps t = some v → ex ≠ some t → v.every (SC.say (· != d)) = true) ∧ ∀ e r, look s.hp e = some r → r.every (SC.say (· != d)) = true := by
  simp only [St.noname, Bool.and_eq_true, Option.isNone_iff_eq_none] at hf
  obtain ⟨⟨hf1, hf2⟩, hf3⟩ := hf
  refine ⟨hf1, fun t v hl ht => ?_, fun e cs hl => List.all_eq_true.1 hf3 _ (look_mem hl)⟩
  have h2 := List.all_eq_true.1 hf2 _ (look_mem hl)
  simp only [Bool.or_eq_true, beq_iff_eq] at h2
  rcases h2 with h2 | h2
  · exact absurd h2.symm ht
  · exact h2
def Env.setPos (g : Env) (d : Nat) (p : Nat × Nat) : Env := { g with pos := fun e => if e = d then p else g.pos e }
def Env.setTk (g : Env) (d : Nat) (v : Value × Value) (p : Nat × Nat) : Env := { pos := fun e => if e = d then p else g.pos e, tk := fun e => if e = d then v else g.tk e }
def NoName (s : St) (d : Nat) (ex : Option Nat) : Prop := look s.hp d = none ∧ (∀ t v, look s.tmps t = some v → ex ≠ some t → v.every (SC.say (· != d)) = true) ∧ ∀ e r, look s.hp e = some r → r.every (SC.say (· != d)) = true

section
variable {P : Program} {K : Ctx} {n : Nat} {ops : Array Oper} {l : List Oper} {o : Oper} {s s' : St} {Q : Exit → St → Prop} {g : Env} {a : Act} {w : World}
/-- a new resource, made by one operation -/
theorem RG.add (h : RG K g n a w s) {d : Nat} (hd6 : d < 1000000) (hf : NoName s d none) {g' : Env} {w' : World} {r : Res} (he : ∀ e, e ≠ d → g'.pos e = g.pos e ∧ g'.tk e = g.tk e) (hx : Ext w w') (hfoot : ∀ b o, Foot g' d r b o → w.heap.size ≤ b)
    (hh : (rdOf K g s.hp w).le (rdOf K g' (setL d r s.hp) w') → Holds (rdOf K g' (setL d r s.hp) w') g' w' d r) : RG K g' n a w' (s.setR d r) ∧ (rdOf K g s.hp w).le (rdOf K g' (setL d r s.hp) w') := by
  obtain ⟨k, hle⟩ := h.hg.step1 (g' := g') (w' := w') (h' := setL d r s.hp) d (· != d) he (fun e he' => he e (by simpa using he')) (fun e he' => by rw [look_setL, if_neg (Ne.symm he')]) (fun e r' _ h2 => hf.2.2 e r' h2) ((Keep.of_ext hx).weak (fun _ _ x => x.elim))
    (fun r' b o h1 h2 => by rw [look_setL, if_pos rfl] at h1; cases h1; exact .inr (hfoot b o h2)) (fun hle r' h1 => by rw [look_setL, if_pos rfl] at h1; cases h1; exact hh hle) (fun h6 => by omega)
    (fun r' h1 _ b o h2 => by rw [look_setL, if_pos rfl] at h1; cases h1; exact .inl (Nat.le_trans h.hg.keep.size (hfoot b o h2)))
  exact ⟨h.move k hle (· != d) (fun e he' => he e (by simpa using he')) s.tmps (fun t v hv => ⟨hv, hf.2.1 t v hv (by simp)⟩), hle⟩

theorem RG.forget (h : RG K g n a w s) (t : Tmp) : RG K g n a w { s with tmps := drop1 s.tmps t } :=
  ⟨h.defers, h.size, h.few, h.hg, fun u v hv => h.tmps u v (by
    rw [look_drop1] at hv
    split at hv
    · cases hv
    · exact hv)⟩
def St.newBox (s : St) (d : Nat) (cs : List SC) : St := (St.setR s d (.box cs)).put (some d) (.c (.box d 0))
theorem NoName.drop {d : Nat} {t : Tmp} (hf : NoName s d (some t)) : NoName { s with tmps := drop1 s.tmps t } d none := by
  refine ⟨hf.1, fun u v hv _ => ?_, hf.2.2⟩
  simp only [look_drop1] at hv
  split at hv
  · cases hv
  · rename_i hne
    exact hf.2.1 u v hv (fun h => hne (Option.some.inj h).symm)
theorem put_drop (s : St) (t : Tmp) (v : SV) (k : Nat) : look (St.put { s with tmps := drop1 s.tmps t } (some t) v).tmps k = look (s.put (some t) v).tmps k := by
  rw [look_put, look_put]
  split
  · rfl
  · rename_i hne
    simp only [look_drop1]
    rw [if_neg (Ne.symm hne)]
theorem RG.sim {s s' : St} (h : RG K g n a w s) (h1 : ∀ k, look s'.tmps k = look s.tmps k) (h2 : s'.hp = s.hp) : RG K g n a w s' := by
  obtain ⟨T, H⟩ := s'
  simp only at h2
  subst h2
  exact ⟨h.defers, h.size, h.few, h.hg, fun t v hv => h.tmps t v (by rw [← h1]; exact hv)⟩

theorem RG.newBox (h : RG K g n a w s) {d : Nat} (hd : d < n) (hd6 : d < 1000000) (hf : NoName s d (some d)) {vs : Array Value} {cs : List SC} (e : TypeId) (hv : CsRel (rdOf K g s.hp w) g vs cs) (hall : cs.all (SC.say (· != d)) = true) :
    R K n (a.put (some d) (.pointer (some ⟨w.heap.size, 0, none⟩))) (w.alloc (.cells vs e)) (s.newBox d cs) := by
  have h0 := h.forget d
  have he : ∀ e, e ≠ d → (g.setPos d (w.heap.size, 0)).pos e = g.pos e ∧ (g.setPos d (w.heap.size, 0)).tk e = g.tk e := fun e he => by simp [Env.setPos, he]
  have hpos : (g.setPos d (w.heap.size, 0)).pos d = (w.heap.size, 0) := by simp [Env.setPos]
  obtain ⟨r1, hle⟩ := h0.add (g' := g.setPos d (w.heap.size, 0)) (w' := w.alloc (.cells vs e)) (r := .box cs) hd6 hf.drop he (Ext.alloc w _) (fun b o hb => by
      obtain ⟨rfl, _⟩ := hb; rw [hpos]; exact Nat.le_refl _) (fun hle => by
      intro j y hy
      obtain ⟨u, h1, h2⟩ := hv.2 j y hy
      rw [hpos]
      refine ⟨u, ?_, ?_, h2.env hle (· != d) (fun e' he' => he e' (by simpa using he')) (List.all_eq_true.1 hall y (List.mem_of_getElem? hy))⟩
      · simp only [Nat.zero_add]
        rw [World.cell?_alloc_at _ _ _ _ rfl]
        exact h1
      · simp only [World.frozen?, heap_alloc_new]
        simp)
  have r2 := r1.put (some d) (fun t ht => by cases ht; exact hd) (u := .pointer (some ⟨w.heap.size, 0, none⟩)) (v := .c (.box d 0)) (by simp only [VRel, CRel, CRel0, hpos])
  exact ⟨_, r2.sim (fun k => (put_drop (s.setR d (.box cs)) d _ k).symm) rfl⟩

theorem S_box {t : TypeId} {x : Operand} {v : SV} {cs : List SC} (d : Nat) (ho : o.op = .box t x) (hdst : o.dst = some d) (hgd : guardOf ops o s = some true) (hd : d < n) (hd6 : d < 1000000) (hx : opd s x = some v) (hc : cellsOf v = some cs) (hf : NoName s d (some d)) (hall : cs.all (SC.say (· != d)) = true) : Stp P K n ops o s (s.newBox d cs) := by
  refine Stp_mk hgd fun g a w r K' Q hK => ?_
  have h2 := r.newBox hd hd6 hf t (rel_cells (r.view.opd hx) hc) hall
  unfold Oper.wp
  simp only [execOp, ho, Instr.box, newVar, newRow, newObj, Sem.run_bind, Sem.run_pure, Sem.run, Result.andThen_ok, Oper.upon, hdst]
  exact hK _ _ h2
theorem S_alloc {t : TypeId} {z : Value} (d : Nat) (cs : List SC) (ho : o.op = .alloc t) (hdst : o.dst = some d) (hgd : guardOf ops o s = some true) (hd : d < n) (hd6 : d < 1000000) (hz : (P.info? t).bind (·.zero) = some z) (hc : z.cells.toList.map SC.lit = cs) (hf : NoName s d (some d)) : Stp P K n ops o s (s.newBox d cs) := by
  refine Stp_mk hgd fun g a w r K' Q hK => ?_
  obtain ⟨i, hi, hz⟩ := Option.bind_eq_some_iff.1 hz
  have h1 : CsRel (rdOf K g s.hp w) g z.cells cs := by
    subst hc
    refine ⟨by simp, fun j y hy => ?_⟩
    rw [List.getElem?_map] at hy
    obtain ⟨u, hu, rfl⟩ := Option.map_eq_some_iff.1 hy
    exact ⟨u, by simpa using hu, .lit u⟩
  have h2 := r.newBox hd hd6 hf t h1 (by subst hc; simp [SC.say, SC.say0])
  unfold Oper.wp
  simp only [execOp, ho, Instr.alloc, zeroValue, typeInfo, program, hi, hz, newVar, newRow, newObj, Sem.run_bind, Sem.run_pure, Sem.run, Result.andThen_ok, Oper.upon, hdst]
  exact hK _ _ h2
end

def over (cs : List SC) (off : Nat) (ds : List SC) : List SC := cs.take off ++ ds ++ cs.drop (off + ds.length)
theorem over_length {cs ds : List SC} {off : Nat} (h : off + ds.length ≤ cs.length) : (over cs off ds).length = cs.length := by
  simp [over]; omega
theorem over_get {cs ds : List SC} {off : Nat} (h : off + ds.length ≤ cs.length) (j : Nat) : (over cs off ds)[j]? = if off ≤ j ∧ j < off + ds.length then ds[j - off]? else cs[j]? := by
  unfold over
  rw [List.append_assoc, List.getElem?_append]
  simp only [List.length_take, Nat.min_eq_left (by omega : off ≤ cs.length)]
  by_cases h1 : j < off
  · rw [if_pos h1, List.getElem?_take, if_pos h1, if_neg (by omega)]
  · rw [if_neg h1, List.getElem?_append]
    by_cases h2 : j - off < ds.length
    · rw [if_pos h2, if_pos (by omega)]
    · rw [if_neg h2, List.getElem?_drop, if_neg (by omega)]
      congr 1
      omega

section
variable {P : Program} {K : Ctx} {n : Nat} {ops : Array Oper} {l : List Oper} {o : Oper} {s s' : St} {Q : Exit → St → Prop} {g : Env} {a : Act} {w w' : World}
/-- a resource is written in place: nothing moves -/
theorem RG.upd (h : RG K g n a w s) {d : Nat} {r0 r : Res} (hl : look s.hp d = some r0) (hfoot : ∀ b o, Foot g d r b o → Foot g d r0 b o) (hk : Keep w (Foot g d r0) w')
    (hkind : ∀ cs, r = .box cs → ∃ cs0, r0 = .box cs0) (hkind2 : r.isBox = false → r0.isBox = false) (hh : (rdOf K g s.hp w).le (rdOf K g (setL d r s.hp) w') → Holds (rdOf K g (setL d r s.hp) w') g w' d r) : RG K g n a w' (s.setR d r) ∧ (rdOf K g s.hp w).le (rdOf K g (setL d r s.hp) w') := by
  obtain ⟨k, hle⟩ := h.hg.step1 (g' := g) (w' := w') (h' := setL d r s.hp) d (fun _ => true) (fun _ _ => ⟨rfl, rfl⟩) (fun _ _ => ⟨rfl, rfl⟩) (fun e he' => by rw [look_setL, if_neg (Ne.symm he')]) (fun e r' _ _ => by cases r' <;> simp [Res.every, SC.say_true]) (hk.weak (fun b o x => ⟨r0, hl, x⟩))
    (fun r' b o h1 h2 => by rw [look_setL, if_pos rfl] at h1; cases h1; exact .inl ⟨r0, hl, hfoot b o h2⟩) (fun hle r' h1 => by rw [look_setL, if_pos rfl] at h1; cases h1; exact hh hle)
    (fun _ => ⟨rfl, fun cs h1 => by rw [look_setL, if_pos rfl] at h1; cases h1; obtain ⟨cs0, rfl⟩ := hkind cs rfl; exact ⟨cs0, hl⟩⟩)
    (fun r' h1 hb b o h2 => by rw [look_setL, if_pos rfl] at h1; cases h1; exact h.hg.new d r0 hl (hkind2 hb) b o (hfoot b o h2))
  exact ⟨h.move k hle (fun _ => true) (fun _ _ => ⟨rfl, rfl⟩) s.tmps (fun t v hv => ⟨hv, by cases v <;> simp [SV.every, SC.say_true]⟩), hle⟩

/-- a part of a variable has been written, by whomever -/
theorem RG.updBox (h : RG K g n a w s) {d off : Nat} {cs ds : List SC} (hl : look s.hp d = some (.box cs)) (hsz : off + ds.length ≤ cs.length) (hk : Keep w (fun b o => b = (g.pos d).1 ∧ (g.pos d).2 + off ≤ o ∧ o < (g.pos d).2 + off + ds.length) w')
    (hb : (rdOf K g s.hp w).le (rdOf K g (setL d (.box (over cs off ds)) s.hp) w') → boxAt (rdOf K g (setL d (.box (over cs off ds)) s.hp) w') g w' ((g.pos d).1, (g.pos d).2 + off) ds) : RG K g n a w' (s.setR d (.box (over cs off ds))) ∧ (rdOf K g s.hp w).le (rdOf K g (setL d (.box (over cs off ds)) s.hp) w') := by
  refine h.upd (r := .box (over cs off ds)) hl (fun b o x => ?_) (hk.weak (fun b o x => ⟨x.1, by omega, by omega⟩)) (fun _ _ => ⟨cs, rfl⟩) (fun q => by cases q) (fun hle => ?_)
  · obtain ⟨h1, h2, h3⟩ := x
    rw [over_length hsz] at h3
    exact ⟨h1, h2, h3⟩
  · intro j y hy
    rw [over_get hsz] at hy
    by_cases hj : off ≤ j ∧ j < off + ds.length
    · rw [if_pos hj] at hy
      obtain ⟨u, h1, h2, h3⟩ := hb hle _ y hy
      simp only [show (g.pos d).2 + off + (j - off) = (g.pos d).2 + j by omega] at h1 h2
      exact ⟨u, h1, h2, h3⟩
    · rw [if_neg hj] at hy
      obtain ⟨u, h1, h2, h3⟩ := h.hg.holds d _ hl j y hy
      exact ⟨u, hk.cell h1 (fun k => by omega), by rw [hk.frozen (World.block_lt_of_cell? w _ h1)]; exact h2, h3.mono hle⟩

theorem RG.store (h : RG K g n a w s) {d off : Nat} {cs ds : List SC} (hl : look s.hp d = some (.box cs)) (hsz : off + ds.length ≤ cs.length) {vs : Array Value} (hv : CsRel (rdOf K g s.hp w) g vs ds) :
    RG K g n a (w.setCells (g.pos d).1 ((g.pos d).2 + off) vs.toList) (s.setR d (.box (over cs off ds))) := by
  have hlen : vs.toList.length = ds.length := by simpa using hv.1
  have hk := Keep.setCells (g.pos d).1 vs.toList ((g.pos d).2 + off) w
  rw [hlen] at hk
  refine (h.updBox hl hsz hk (fun hle j y hy => ?_)).1
  obtain ⟨u, h1, h2⟩ := hv.2 j y hy
  have hj := (List.getElem?_eq_some_iff.1 hy).1
  obtain ⟨u0, k1, k2, _⟩ := h.hg.holds d _ hl (off + j) _ (List.getElem?_eq_getElem (by omega))
  rw [← Nat.add_assoc] at k1 k2
  refine ⟨u, ?_, by rw [hk.frozen (World.block_lt_of_cell? w _ k1)]; exact k2, h2.mono hle⟩
  simp only
  have h1' : vs.toList[j]? = some u := by simpa using h1
  have hthere : ∀ i, i < vs.toList.length → (w.cell? ⟨(g.pos d).1, (g.pos d).2 + off + i, none⟩).isSome = true := fun i hi => by
    obtain ⟨u1, q1, _⟩ := h.hg.holds d _ hl (off + i) _ (List.getElem?_eq_getElem (by omega))
    rw [← Nat.add_assoc] at q1
    rw [q1]; rfl
  rw [World.cell?_setCells_in (g.pos d).1 vs.toList ((g.pos d).2 + off) w hthere j (by omega)]
  rw [List.getElem?_eq_getElem (by omega)] at h1'
  exact h1'

def SC.one : SC → Bool
  | .lit (.agg _) => false
  | .lit (.tuple _) => false
  | .any => false
  | _ => true
theorem one_cell {rd : Rd} {g : Env} {u : Value} {x : SC} (h : CRel rd g u x) (h1 : x.one = true) : u.oneCell' = true := by
  cases x <;> simp only [CRel, CRel0] at h
  case lit v => cases h; cases u <;> simp_all [SC.one, Value.oneCell']
  case slc => cases h.1 <;> rfl
  case ref => cases h; rfl
  case box => subst h; rfl
  case own => obtain ⟨h1, ⟨a, n, c, h2⟩ | ⟨r, h2⟩⟩ := h <;> (rw [h1, h2]; rfl)
  case ex => obtain ⟨_, h2 | ⟨a, n, h2⟩⟩ := h <;> (rw [h2]; rfl)
  case row => obtain ⟨a, n, c, h1, h2, _⟩ := h; rw [h2]; rfl
  case win => obtain ⟨a, c, h1, _⟩ := h; rw [h1]; rfl
  case sub => obtain ⟨_, _, _, _, _, _, _, h2, _⟩ := h; rw [h2]; rfl
  case elt => obtain ⟨_, _, _, _, h2⟩ := h; rw [h2]; rfl
  case any => cases h1
  case clo => obtain ⟨a, h1, _⟩ := h; rw [h1]; rfl

theorem S_store {t : TypeId} {p x : Operand} {v : SV} (d off : Nat) (cs ds : List SC) (ho : o.op = .store t p x) (hdst : o.dst = none) (hgd : guardOf ops o s = some true)
    (hp : opd s p = some (.c (.box d off))) (hx : opd s x = some v) (hc : cellsOf v = some ds) (hl : s.lookB d = some cs) (hi : (P.info? t).map (·.size) = some ds.length) (h1 : ds.all SC.one = true) (hsz' : off + ds.length ≤ cs.length) : Stp P K n ops o s (s.setR d (.box (over cs off ds))) := by
  refine Stp_mk hgd fun g a w r K' Q hK => ?_
  have hv := rel_cells (r.view.opd hx) hc
  have hpp := r.view.opd hp
  simp only [VRel, CRel, CRel0] at hpp
  have hl' := lookB_some hl
  obtain ⟨i, hi', hsize⟩ := Option.map_eq_some_iff.1 hi
  have hlen : (a.eval x).cells.toList.length = ds.length := by simpa using hv.1
  have hst := run_storeCells_cells (P := P) (g.pos d).1 ((g.pos d).2 + off) (a.eval x).cells.toList 0 w
    (fun j hj => by
      obtain ⟨u, k1, _⟩ := r.hg.holds d _ hl' (off + j) cs[off + j] (List.getElem?_eq_getElem (by omega))
      rw [← Nat.add_assoc] at k1
      rw [Nat.add_zero, k1]; rfl)
    (fun j hj => by
      obtain ⟨u, _, k2, _⟩ := r.hg.holds d _ hl' (off + j) cs[off + j] (List.getElem?_eq_getElem (by omega))
      rw [← Nat.add_assoc] at k2
      rw [Nat.add_zero]; exact k2)
    (fun u hu => by
      obtain ⟨j, hj, rfl⟩ := List.getElem_of_mem hu
      obtain ⟨u', k1, k2⟩ := hv.2 j ds[j] (List.getElem?_eq_getElem (by omega))
      have : u' = (a.eval x).cells.toList[j] := by
        have : (a.eval x).cells.toList[j]? = some u' := by simpa using k1
        rw [List.getElem?_eq_getElem hj] at this
        exact (Option.some.inj this).symm
      rw [← this]
      exact one_cell k2 (List.all_eq_true.1 h1 _ (List.getElem_mem _)))
  rw [Nat.add_zero] at hst
  unfold Oper.wp
  have hsz2 : (a.eval x).cells.size = i.size := by rw [hsize]; exact hv.1
  simp only [execOp, ho, Instr.storeAt, Instr.sureAddr, hpp, storeVar, sizeOf, typeInfo, program, hi', hsz2, ne_eq, not_true_eq_false, if_false, Sem.run_bind, Sem.run_pure, Sem.run, Result.andThen_ok, hst, Oper.upon, hdst]
  exact hK _ _ ⟨g, r.store hl' hsz' hv⟩
end
end
section
open Go.RowKit

section
variable {P : Program} {K : Ctx} {n : Nat} {Q : Exit → St → Prop} {s : St}
def thenQ (next : St → Prop) (Q : Exit → St → Prop) : Exit → St → Prop
  | .normal, s => next s
  | e, s => Q e s
def blockQ (id : Nat) (Q : Exit → St → Prop) : Exit → St → Prop
  | .exit i, s => if i = id then Q .normal s else Q (.exit i) s
  | e, s => Q e s
theorem T_skip (h : Q .normal s) : T P K n .skip s Q := fun _ _ r => wp_skip ⟨s, r, h⟩
theorem T_ret (h : Q .ret s) : T P K n .ret s Q := fun _ _ r => wp_ret ⟨s, r, h⟩
theorem T_exit {id : Nat} (h : Q (.exit id) s) : T P K n (.exit id) s Q := fun _ _ r => wp_exit ⟨s, r, h⟩
theorem T_seq {x y : Code} (h : T P K n x s (thenQ (fun s' => T P K n y s' Q) Q)) : T P K n (.seq x y) s Q := fun a w r =>
  wp_seq (wp_mono (h a w r) fun e a' w' ⟨s', r', q⟩ => by
    cases e <;> simp only [thenQ] at q <;> simp only [Exit.then]
    case normal => exact q a' w' r'
    all_goals exact ⟨s', r', q⟩)
theorem T_block {id : Nat} {c : Code} (h : T P K n c s (blockQ id Q)) : T P K n (.block id c) s Q := fun a w r =>
  wp_block (wp_mono (h a w r) fun e a' w' hq => by
    obtain ⟨s', r', q⟩ := hq
    cases e with
    | exit i =>
      simp only [blockQ] at q
      simp only [Exit.inBlock]
      by_cases hi : i = id
      · rw [if_pos hi] at q ⊢; exact ⟨s', r', q⟩
      · rw [if_neg hi] at q ⊢; exact ⟨s', r', q⟩
    | _ => exact ⟨s', r', q⟩)
theorem T_mono {c : Code} {Q' : Exit → St → Prop} (h : T P K n c s Q) (k : ∀ e s, Q e s → Q' e s) : T P K n c s Q' := fun a w r =>
  wp_mono (h a w r) fun _e _a' _w' ⟨s', r', q⟩ => ⟨s', r', k _ _ q⟩
theorem T_loop {c : Code} {ι : Type} (I : ι → St → Prop) (μ : ι → Nat) (i : ι) (hi : I i s) (h : ∀ i s, I i s → T P K n c s (thenQ (fun s' => ∃ j, I j s' ∧ μ j < μ i) Q)) : T P K n (.loop c) s Q := by
  intro a w r b k cs
  have key : ∀ m i s a w, μ i = m → I i s → R K n a w s → ∃ e a' w', Post K n Q e a' w' ∧ Arrives P (lone (b.at a (.code c :: .inLoop c :: k)) cs w) b k cs e a' w' := by
    intro m
    induction m using Nat.strongRecOn with
    | _ m ih =>
      intro i s a w hm hj hr
      obtain ⟨e, a₁, w₁, ⟨s1, r1, hq⟩, harr⟩ := h i s hj a w hr b (.inLoop c :: k) cs
      cases e with
      | normal =>
        obtain ⟨j, hj', hlt⟩ := hq
        obtain ⟨e₂, a₂, w₂, hq₂, harr₂⟩ := ih (μ j) (hm ▸ hlt) j s1 a₁ w₁ rfl hj' r1
        exact ⟨e₂, a₂, w₂, hq₂, .of_steps (Steps.trans harr (.one step_inLoop)) harr₂⟩
      | exit id => exact ⟨_, a₁, w₁, ⟨s1, r1, hq⟩, .pass (x := .inLoop c) rfl (fun _ _ => .inl (by simp)) harr⟩
      | goto l => exact ⟨_, a₁, w₁, ⟨s1, r1, hq⟩, .pass (x := .inLoop c) rfl (fun _ _ => .inl (by simp)) harr⟩
      | ret => exact ⟨_, a₁, w₁, ⟨s1, r1, hq⟩, .pass (x := .inLoop c) rfl (fun _ _ => .inl (by simp)) harr⟩
      | panic ch => exact ⟨_, a₁, w₁, ⟨s1, r1, hq⟩, .pass (x := .inLoop c) rfl (fun _ _ => .inl (by simp)) harr⟩
      | outgrown => exact ⟨_, a₁, w₁, ⟨s1, r1, hq⟩, .pass (x := .inLoop c) rfl (fun _ _ => .inl (by simp)) harr⟩
  obtain ⟨e, a', w', hq, harr⟩ := key _ i s a w rfl hi r
  exact ⟨e, a', w', hq, .of_steps (.one step_loop) harr⟩
theorem T_cond {c : Operand} {x y : Code} (b : Bool) (hc : opd s c = some (.c (.lit (.bool b)))) (h : T P K n (if b then x else y) s Q) : T P K n (.cond c x y) s Q := by
  intro a w r
  obtain ⟨g, hg⟩ := r
  have h2 : a.eval c = .bool b := rel_lit (hg.view.opd hc)
  exact wp_cond h2 (h a w ⟨g, hg⟩)
theorem T_region {id : Nat} {l : List Oper} (h : TL P K n l.toArray l s Q) : T P K n (.region id l.toArray false) s Q := fun a w r => wp_region_lit (h a w r)
end

def stepS (P : Program) (n : Nat) (ops : Array Oper) (o : Oper) (s : St) : Option St := match guardOf ops o s with
  | some false => if dstOk n o then some (s.put o.dst (.tup [])) else none
  | some true => match o.op with
    | .box _ x => match o.dst, opd s x with
      | some d, some v => match cellsOf v with
        | some cs => if decide (d < n) && decide (d < 1000000) && s.noname d (some d) && cs.all (SC.say (· != d)) then some (s.newBox d cs) else none
        | none => none
      | _, _ => none
    | .alloc t => match o.dst, (P.info? t).bind (·.zero) with
      | some d, some z => if decide (d < n) && decide (d < 1000000) && s.noname d (some d) then some (s.newBox d (z.cells.toList.map SC.lit)) else none
      | _, _ => none
    | .store t p x => match o.dst, opd s p, opd s x with
      | none, some (.c (.box d off)), some v => match cellsOf v, s.lookB d, P.info? t with
        | some ds, some cs, some i => if decide (i.size = ds.length) && ds.all SC.one && decide (off + ds.length ≤ cs.length) then some (s.setR d (.box (over cs off ds))) else none
        | _, _, _ => none
      | _, _, _ => none
    | _ => match sop P s o.op with
      | some v => if dstOk n o then some (s.put o.dst v) else none
      | none => none
  | none => none
theorem stepS_ok {P : Program} {K : Ctx} {n : Nat} {ops : Array Oper} {o : Oper} {s s' : St} (h : stepS P n ops o s = some s') : Stp P K n ops o s s' := by
  unfold stepS at h
  split at h
  · rename_i hg
    split at h
    · rename_i hd; cases h; exact S_skip hg hd
    · cases h
  · rename_i hg
    split at h
    · rename_i t x ho
      split at h
      · rename_i d v hd hx
        split at h
        · rename_i cs hcs
          split at h
          · rename_i hc
            simp only [Bool.and_eq_true, decide_eq_true_eq] at hc
            cases h
            exact S_box d ho hd hg hc.1.1.1 hc.1.1.2 hx hcs (noname_spec hc.1.2) hc.2
          · cases h
        · cases h
      · cases h
    · rename_i t ho
      split at h
      · rename_i d z hd hz
        split at h
        · rename_i hc
          simp only [Bool.and_eq_true, decide_eq_true_eq] at hc
          cases h
          exact S_alloc d _ ho hd hg hc.1.1 hc.1.2 hz rfl (noname_spec hc.2)
        · cases h
      · cases h
    · rename_i t p x ho
      split at h
      · rename_i d off v hd hp hx
        split at h
        · rename_i ds cs i hds hcs hi
          split at h
          · rename_i hc
            simp only [Bool.and_eq_true, decide_eq_true_eq] at hc
            cases h
            exact S_store d off cs ds ho hd hg hp hx hds hcs (by rw [hi]; exact congrArg some hc.1.1) hc.1.2 hc.2
          · cases h
        · cases h
      · cases h
    · split at h
      · rename_i v hv
        split at h
        · rename_i hd; cases h; exact S_grow v hg hd (sop_ok hv).grow
        · cases h
      · cases h
  · cases h

inductive Fr where
  | code (c : Code)
  | blk (id : Nat)
  | ops (ops : Array Oper) (l : List Oper)
inductive Cfg where
  | mk (fs : List Fr) (e : Exit) (s : St)
  | bad
def QS (P : Program) (K : Ctx) (n : Nat) : List Fr → (Exit → St → Prop) → Exit → St → Prop
  | [], Q => Q
  | .code c :: fs, Q => thenQ (fun s => T P K n c s (QS P K n fs Q)) (QS P K n fs Q)
  | .blk id :: fs, Q => blockQ id (QS P K n fs Q)
  | .ops os l :: fs, Q => thenQ (fun s => TL P K n os l s (QS P K n fs Q)) (QS P K n fs Q)
def TS (P : Program) (K : Ctx) (n : Nat) (C : Cfg) (Q : Exit → St → Prop) : Prop := match C with
  | .mk fs e s => QS P K n fs Q e s
  | .bad => False

def stepC (P : Program) (n : Nat) : Cfg → Cfg
  | .bad => .bad
  | .mk [] _ _ => .bad
  | .mk (.code c :: fs) e s => match e with
    | .normal => match c with
      | .skip => .mk fs .normal s
      | .seq a b => .mk (.code a :: .code b :: fs) .normal s
      | .block id b => .mk (.code b :: .blk id :: fs) .normal s
      | .exit id => .mk fs (.exit id) s
      | .ret => .mk fs .ret s
      | .region _ ops false => .mk (.ops ops ops.toList :: fs) .normal s
      | _ => .bad
    | e => .mk fs e s
  | .mk (.blk id :: fs) e s => match e with
    | .exit i => if i = id then .mk fs .normal s else .mk fs (.exit i) s
    | e => .mk fs e s
  | .mk (.ops os l :: fs) e s => match e with
    | .normal => match l with
      | [] => .mk fs .normal s
      | o :: l => match stepS P n os o s with
        | some s' => .mk (.ops os l :: fs) .normal s'
        | none => .bad
    | e => .mk fs e s
def go (P : Program) (n : Nat) : Nat → Cfg → Cfg
  | 0, C => C
  | k + 1, C => go P n k (stepC P n C)

section
variable {P : Program} {K : Ctx} {n : Nat} {Q : Exit → St → Prop} {C : Cfg}
theorem step_ok (h : TS P K n (stepC P n C) Q) : TS P K n C Q := by
  cases C with
  | bad => exact h
  | mk fs e s =>
    cases fs with
    | nil => exact h.elim
    | cons f fs =>
      cases f with
      | code c =>
        cases e with
        | normal =>
          simp only [stepC] at h
          split at h
          · exact T_skip h
          · exact T_seq h
          · exact T_block h
          · exact T_exit h
          · exact T_ret h
          · rename_i id ops
            have := T_region (P := P) (K := K) (n := n) (id := id) (l := ops.toList) (Q := QS P K n fs Q) (s := s) h
            exact this
          · exact h.elim
        | _ => exact h
      | blk id =>
        cases e with
        | exit i =>
          simp only [stepC] at h
          simp only [TS, QS, blockQ]
          split
          · rename_i hi; rw [if_pos hi] at h; exact h
          · rename_i hi; rw [if_neg hi] at h; exact h
        | _ => exact h
      | ops os l =>
        cases e with
        | normal =>
          simp only [stepC] at h
          cases l with
          | nil => exact TL_nil h
          | cons o l =>
            simp only at h
            split at h
            · rename_i s' hs
              exact TL_stp (stepS_ok hs) h
            · exact h.elim
        | _ => exact h
theorem TS_go : ∀ (k : Nat) {C : Cfg}, TS P K n (go P n k C) Q → TS P K n C Q
  | 0, _, h => h
  | k + 1, _, h => step_ok (TS_go k h)
def Cfg.test : Cfg → Option Bool
  | .mk (.code (.cond c _ _) :: _) .normal s => match opd s c with
    | some (.c (.lit (.bool b))) => some b
    | _ => none
  | _ => none
def Cfg.thn : Cfg → Cfg
  | .mk (.code (.cond _ x _) :: fs) .normal s => .mk (.code x :: fs) .normal s
  | _ => .bad
def Cfg.els : Cfg → Cfg
  | .mk (.code (.cond _ _ y) :: fs) .normal s => .mk (.code y :: fs) .normal s
  | _ => .bad
theorem test_spec {b : Bool} (h : C.test = some b) : ∃ c x y fs s, C = .mk (.code (.cond c x y) :: fs) .normal s ∧ opd s c = some (.c (.lit (.bool b))) := by
  unfold Cfg.test at h
  split at h
  · rename_i c x y fs s
    split at h
    · rename_i b' hb; cases h; exact ⟨c, x, y, fs, s, rfl, hb⟩
    · cases h
  · cases h
theorem TS_T {b : Bool} (h : C.test = some b) (hb : b = true) (k : TS P K n C.thn Q) : TS P K n C Q := by
  subst hb
  obtain ⟨c, x, y, fs, s, rfl, hc⟩ := test_spec h
  exact T_cond true hc k
theorem TS_F {b : Bool} (h : C.test = some b) (hb : b = false) (k : TS P K n C.els Q) : TS P K n C Q := by
  subst hb
  obtain ⟨c, x, y, fs, s, rfl, hc⟩ := test_spec h
  exact T_cond false hc k

def Cfg.st : Cfg → St
  | .mk _ _ s => s
  | .bad => ⟨[], []⟩
def Cfg.withS (C : Cfg) (s : St) : Cfg := match C with
  | .mk fs e _ => .mk fs e s
  | .bad => .bad
/-- code or operations stand next -/
def Cfg.pre : Cfg → Bool
  | .mk (.code _ :: _) .normal _ => true
  | .mk (.ops _ _ :: _) .normal _ => true
  | _ => false
/-- what holds of one state in place of another -/
theorem TS_state (s' : St) (hR : ∀ a w, R K n a w C.st → R K n a w s') (he : C.pre = true) (k : TS P K n (C.withS s') Q) : TS P K n C Q := by
  cases C with
  | bad => exact k
  | mk fs e s =>
    cases fs with
    | nil => simp [Cfg.pre] at he
    | cons f fs =>
      cases e <;> try (simp [Cfg.pre] at he; done)
      cases f with
      | code c => exact fun a w r => k a w (hR a w r)
      | ops os l => exact fun a w r => k a w (hR a w r)
      | blk id => simp [Cfg.pre] at he
end
end
section
open Go.RowKit

def cast1 : Nat → SC → SC
  | 0, x => x
  | s + 1, x => match x with
    | .lit (.slice none 0 0) => .slc s 0 0 []
    | .slc s' _ n xs => .slc s' 0 n xs
    | x => x
theorem cast1_rel {rd : Rd} {g : Env} {v : Value} {x : SC} (k : Nat) (h : CRel rd g v x) : CRel rd g v (cast1 k x) := by
  unfold cast1
  split
  · exact h
  · split
    · simp only [CRel, CRel0] at h
      cases h
      exact ⟨.nil _ _ _ (by decide), trivial⟩
    · exact ⟨h.1, trivial⟩
    · exact h
def castL : List Nat → List SC → List SC
  | k :: ks, x :: xs => cast1 k x :: castL ks xs
  | _, xs => xs
theorem castL_length : ∀ (ks : List Nat) (xs : List SC), (castL ks xs).length = xs.length
  | [], _ => rfl
  | _ :: _, [] => rfl
  | k :: ks, x :: xs => by simp [castL, castL_length ks xs]
theorem castL_get : ∀ (ks : List Nat) (xs : List SC) (j : Nat) (y : SC), (castL ks xs)[j]? = some y → ∃ k x, xs[j]? = some x ∧ y = cast1 k x
  | [], xs, j, y, h => ⟨0, y, h, rfl⟩
  | _ :: _, [], j, y, h => by simp [castL] at h
  | k :: ks, x :: xs, j, y, h => by
    cases j with
    | zero => simp [castL] at h; exact ⟨k, x, rfl, h.symm⟩
    | succ j => exact castL_get ks xs j y (by simpa [castL] using h)
theorem castL_rel {rd : Rd} {g : Env} {vs : Array Value} {cs : List SC} (ks : List Nat) (h : CsRel rd g vs cs) : CsRel rd g vs (castL ks cs) := by
  refine ⟨by rw [castL_length]; exact h.1, fun j y hy => ?_⟩
  obtain ⟨k, x, hx, rfl⟩ := castL_get ks cs j y hy
  obtain ⟨u, h1, h2⟩ := h.2 j x hx
  exact ⟨u, h1, cast1_rel k h2⟩
def castF (ks : List Nat) (x : Bool × List SC) : Bool × List SC := (x.1, castL ks x.2)
theorem castF_rel {rd : Rd} {g : Env} {v : Value} {x : Bool × List SC} (ks : List Nat) (h : FRel rd g v x) : FRel rd g v (castF ks x) := by
  unfold FRel castF at *
  simp only
  split
  · rename_i hx; rw [if_pos hx] at h; obtain ⟨vs, h1, h2⟩ := h; exact ⟨vs, h1, castL_rel ks h2⟩
  · rename_i hx; rw [if_neg hx] at h
    obtain ⟨y, h1, h2⟩ := h
    rw [h1]
    cases ks with
    | nil => exact ⟨y, rfl, h2⟩
    | cons k ks => exact ⟨cast1 k y, by simp [castL], cast1_rel k h2⟩
def castTs : List Nat → List (Bool × List SC) → List (Bool × List SC)
  | _, [] => []
  | ks, x :: xs => castF (ks.take x.2.length) x :: castTs (ks.drop x.2.length) xs
theorem castTs_nil : ∀ (xs : List (Bool × List SC)), castTs [] xs = xs
  | [] => rfl
  | x :: xs => by simp [castTs, castF, castL, castTs_nil xs]
theorem castTs_length : ∀ (ks : List Nat) (xs : List (Bool × List SC)), (castTs ks xs).length = xs.length
  | _, [] => rfl
  | ks, x :: xs => by simp [castTs, castTs_length _ xs]
theorem castTs_get : ∀ (ks : List Nat) (xs : List (Bool × List SC)) (j : Nat) (y : Bool × List SC), (castTs ks xs)[j]? = some y → ∃ ks' x, xs[j]? = some x ∧ y = castF ks' x
  | _, [], j, y, h => by simp [castTs] at h
  | ks, x :: xs, j, y, h => by
    cases j with
    | zero => simp [castTs] at h; exact ⟨_, x, rfl, h.symm⟩
    | succ j => exact castTs_get _ xs j y (by simpa [castTs] using h)
def castV (ks : List Nat) : SV → SV
  | .c x => match ks with
    | k :: _ => .c (cast1 k x)
    | [] => .c x
  | .agg cs => .agg (castL ks cs)
  | .tup xs => .tup (castTs ks xs)
theorem castV_rel {rd : Rd} {g : Env} {v : Value} {x : SV} (ks : List Nat) (h : VRel rd g v x) : VRel rd g v (castV ks x) := by
  cases x with
  | c x => cases ks with
    | nil => exact h
    | cons k ks => exact cast1_rel k h
  | agg cs => obtain ⟨vs, h1, h2⟩ := h; exact ⟨vs, h1, castL_rel ks h2⟩
  | tup xs =>
    obtain ⟨vs, h1, h2, h3⟩ := h
    refine ⟨vs, h1, by rw [castTs_length]; exact h2, fun j y hj => ?_⟩
    obtain ⟨ks', x, hx, rfl⟩ := castTs_get ks xs j y hj
    obtain ⟨u, h4, h5⟩ := h3 j x hx
    exact ⟨u, h4, castF_rel ks' h5⟩

def svF : SV → Option (Bool × List SC)
  | .c x => some (false, [x])
  | .agg cs => some (true, cs)
  | .tup _ => none
theorem svF_rel {rd : Rd} {g : Env} {v : Value} {x : SV} {y : Bool × List SC} (h : VRel rd g v x) (hy : svF x = some y) : FRel rd g v y := by
  cases x <;> simp only [svF, reduceCtorEq] at hy
  · cases hy; exact ⟨_, rfl, h⟩
  · cases hy; exact h
def resS (P : Program) (s : St) : ResultVar → Option (Bool × List SC)
  | .tmp t => match (if t < 2000000 then look s.tmps t else none) with
    | some v => svF v
    | none => none
  | .cell a t => match (if a < 2000000 then look s.tmps a else none) with
    | some p => match cellsAt s p with
      | some cs => match wrapT P t cs with
        | some v => svF v
        | none => none
      | none => none
    | none => none
def resL (P : Program) (s : St) : List (List Nat) → List ResultVar → Option (List (Bool × List SC))
  | _, [] => some []
  | kss, r :: rs => match resS P s r, resL P s kss.tail rs with
    | some x, some xs => some (castF (kss.headD []) x :: xs)
    | _, _ => none
/-- one result by itself, several as a tuple -/
def resV : List (Bool × List SC) → Option SV
  | [(true, cs)] => some (.agg cs)
  | [(false, [x])] => some (.c x)
  | [(false, _)] => none
  | xs => some (.tup xs)

def rv (a : Act) : ResultVar → Sem Value
  | .tmp t => pure (a.tmps.getD t undef)
  | .cell b t => do loadVar t (← asAddr (a.tmps.getD b undef))
theorem resS_rel {P : Program} {g : Env} {rd : Rd} {a : Act} {w : World} {s : St} (h : View g rd a w s) {r : ResultVar} {x : Bool × List SC} (hr : resS P s r = some x) :
    ∃ u, (rv a r).run P w = .ok u w ∧ FRel rd g u x := by
  cases r with
  | tmp t =>
    simp only [resS] at hr
    split at hr
    · rename_i v hv
      split at hv
      rotate_left
      · cases hv
      rename_i ht
      obtain ⟨u, h1, h2⟩ := h.tmps t v ht hv
      refine ⟨u, ?_, svF_rel h2 hr⟩
      simp [rv, Array.getD_eq_getD_getElem?, h1]
    · cases hr
  | cell b t =>
    simp only [resS] at hr
    split at hr
    · rename_i p hp
      split at hr
      · rename_i cs hcs
        split at hr
        · rename_i v hv
          split at hp
          rotate_left
          · cases hp
          rename_i ht
          obtain ⟨u, h1, h2⟩ := h.tmps b p ht hp
          obtain ⟨bb, oo, rfl, h4⟩ := (h.o default).cellsAt h2 hcs
          obtain ⟨u', h5, h6⟩ := run_loadVar_sh (P := P) hv h4
          refine ⟨u', ?_, svF_rel h6 hr⟩
          simp [rv, Array.getD_eq_getD_getElem?, h1, asAddr, h5]
        · cases hr
      · cases hr
    · cases hr

theorem resL_rel {P : Program} {g : Env} {rd : Rd} {a : Act} {w : World} {s : St} (h : View g rd a w s) : ∀ (rs : List ResultVar) (kss : List (List Nat)) (xs : List (Bool × List SC)), resL P s kss rs = some xs →
    ∃ us : List Value, (rs.mapM (rv a)).run P w = .ok us w ∧ us.length = xs.length ∧ ∀ (j : Nat) (x : Bool × List SC), xs[j]? = some x → ∃ u, us[j]? = some u ∧ FRel rd g u x
  | [], kss, xs, hx => by
    cases hx
    exact ⟨[], by simp, rfl, fun j x hj => by simp at hj⟩
  | r :: rs, kss, xs, hx => by
    simp only [resL] at hx
    split at hx
    · rename_i x xs' h1 h2
      cases hx
      obtain ⟨u, h3, h4⟩ := resS_rel h h1
      obtain ⟨us, h5, h6, h7⟩ := resL_rel h rs _ xs' h2
      refine ⟨u :: us, by rw [List.mapM_cons]; simp [h3, h5], by simp [h6], fun j y hy => ?_⟩
      cases j with
      | zero => cases hy; exact ⟨u, rfl, castF_rel _ h4⟩
      | succ j => exact h7 j y hy
    · cases hx

theorem run_results {P : Program} {g : Env} {rd : Rd} {a : Act} {w : World} {s : St} (h : View g rd a w s) {fn : Func} {kss : List (List Nat)} {xs : List (Bool × List SC)} {r : SV} (hx : resL P s kss fn.results.toList = some xs) (hr : resV xs = some r) :
    ∃ u, (results fn a.tmps).run P w = .ok u w ∧ VRel rd g u r := by
  obtain ⟨us, h1, h2, h3⟩ := resL_rel h _ kss xs hx
  have hm : (fn.results.mapM (rv a)).run P w = .ok us.toArray w := by
    rw [Array.mapM_eq_mapM_toList]
    simp [h1]
  refine ⟨if h : us.toArray.size = 1 then us.toArray[0] else .tuple us.toArray, ?_, ?_⟩
  · unfold results
    simp only [Sem.run_bind]
    refine (congrArg (fun z => Result.andThen z _) hm).trans ?_
    simp
  · unfold resV at hr
    split at hr
    · cases hr
      obtain ⟨u, h4, h5⟩ := h3 0 _ rfl
      have h6 : us.length = 1 := by simpa using h2
      obtain ⟨x, rfl⟩ := List.length_eq_one_iff.1 h6
      cases h4
      simp
      exact h5
    · cases hr
      obtain ⟨u, h4, h5⟩ := h3 0 _ rfl
      have h6 : us.length = 1 := by simpa using h2
      obtain ⟨x, rfl⟩ := List.length_eq_one_iff.1 h6
      cases h4
      simp
      obtain ⟨y, h7, h8⟩ := h5
      cases h7
      exact h8
    · cases hr
    · rename_i hn1 hn2 hn3
      cases hr
      have h6 : us.toArray.size ≠ 1 := by
        intro h6
        have : xs.length = 1 := by rw [← h2]; simpa using h6
        obtain ⟨x, rfl⟩ := List.length_eq_one_iff.1 this
        obtain ⟨b, cs⟩ := x
        cases b
        · exact hn3 _ rfl
        · exact hn1 _ rfl
      rw [dif_neg h6]
      exact ⟨us.toArray, rfl, by simpa using h2, fun j x hj => by simpa using h3 j x hj⟩

def initT : Nat → List SV → List (Nat × SV)
  | _, [] => []
  | i, x :: xs => (i, x) :: initT (i + 1) xs
theorem look_initT : ∀ (xs : List SV) (i t : Nat) (v : SV), look (initT i xs) t = some v → i ≤ t ∧ xs[t - i]? = some v
  | [], i, t, v, h => by simp [initT, look] at h
  | x :: xs, i, t, v, h => by
    simp only [initT, look_cons] at h
    split at h
    · rename_i ht; subst ht; cases h; simp
    · rename_i ht
      obtain ⟨h1, h2⟩ := look_initT xs (i + 1) t v h
      exact ⟨by omega, by rw [show t - i = (t - (i + 1)) + 1 by omega, List.getElem?_cons_succ]; exact h2⟩


theorem Holds.mono {rd rd' : Rd} (hle : rd.le rd') {g : Env} {w : World} {d : Nat} {r : Res} (h : Holds rd g w d r) : Holds rd' g w d r := by
  cases r with
  | box cs => exact fun j y hy => let ⟨u, h1, h2, h3⟩ := h j y hy; ⟨u, h1, h2, h3.mono hle⟩
  | row e s n xs => exact let ⟨us, h1, h2, h3⟩ := h; ⟨us, h1, h2, h3.mono hle⟩
  | spare e s n => exact h
  | mp L => exact h
def Dis (g : Env) (h : Hp) : Prop := ∀ d d' r r' b o, d ≠ d' → look h d = some r → look h d' = some r' → Foot g d r b o → ¬ Foot g d' r' b o
/-- rows and spare room lie in new memory -/
def NewR (g : Env) (n : Nat) (may : Nat → Nat → Prop) (h : Hp) : Prop := ∀ d r, look h d = some r → r.isBox = false → ∀ b o, Foot g d r b o → n ≤ b ∨ may b o
/-- the function, called with these arguments and these resources, returns this, and leaves these resources -/
def Con (P : Program) (f : FuncId) (args : List SV) (h : Hp) (r : SV) (h' : Hp) : Prop :=
  ∀ (rd : Rd) (g : Env) (w : World) (us : Array Value), (∀ b o v, rd b o = some v → w.cell? ⟨b, o, none⟩ = some v) → us.size = args.length → (∀ (i : Nat) (x : SV), args[i]? = some x → ∃ u, us[i]? = some u ∧ VRel rd g u x) →
    (∀ d x, look h d = some x → Holds rd g w d x) → Dis g h → (∀ b o, InFoot g h b o → rd b o = none) →
    Calls P f us w fun e w' => ∃ u g', e = .returned u ∧ Keep w (InFoot g h) w' ∧ (∀ d cs, 1000000 ≤ d → look h' d = some (.box cs) → g'.pos d = g.pos d) ∧ (∀ b o, InFoot g' h' b o → InFoot g h b o ∨ w.heap.size ≤ b) ∧ Dis g' h' ∧ NewR g' w.heap.size (InFoot g h) h' ∧
      ∀ rd', rd.le rd' → SeesX w (InFoot g h) rd' w' (InFoot g' h') → VRel rd' g' u r ∧ ∀ d x, look h' d = some x → Holds rd' g' w' d x
def castR (ks : List Nat) : Res → Res
  | .box cs => .box (castL ks cs)
  | r => r
def pickH (h : Hp) : List (Nat × List Nat) → Option Hp
  | [] => some []
  | (d, ks) :: l => match look h d, pickH h l with
    | some r, some h' => some ((d, castR ks r) :: h')
    | _, _ => none
theorem pickH_look {h : Hp} : ∀ (l : List (Nat × List Nat)) {h' : Hp}, pickH h l = some h' → ∀ d x, look h' d = some x → ∃ r ks, look h d = some r ∧ x = castR ks r
  | [], h', e, d, x, hx => by cases e; simp [look] at hx
  | (d0, ks) :: l, h', e, d, x, hx => by
    simp only [pickH] at e
    split at e
    · rename_i r h1 q1 q2
      cases e
      rw [look_cons] at hx
      split at hx
      · rename_i hd; subst hd; cases hx; exact ⟨r, ks, q1, rfl⟩
      · exact pickH_look l q2 d x hx
    · cases e
theorem castR_foot (g : Env) (d : Nat) (ks : List Nat) (r : Res) : Foot g d (castR ks r) = Foot g d r := by
  funext b o
  cases r <;> simp [Foot, castR, castL_length]
theorem castR_holds {rd : Rd} {g : Env} {w : World} {d : Nat} {r : Res} (ks : List Nat) (h : Holds rd g w d r) : Holds rd g w d (castR ks r) := by
  cases r with
  | box cs =>
    intro j y hy
    obtain ⟨k, x, hx, rfl⟩ := castL_get ks cs j y hy
    obtain ⟨u, h1, h2, h3⟩ := h j x hx
    exact ⟨u, h1, h2, cast1_rel k h3⟩
  | row e s n xs => exact h
  | spare e s n => exact h
  | mp L => exact h
def retC (P : Program) (fn : Func) (kss : List (List Nat)) (spec : List (Nat × List Nat)) (r : SV) (h' : Hp) : Exit → St → Prop
  | .normal, s => (∃ xs, resL P s kss fn.results.toList = some xs ∧ resV xs = some r) ∧ pickH s.hp spec = some h'
  | .ret, s => (∃ xs, resL P s kss fn.results.toList = some xs ∧ resV xs = some r) ∧ pickH s.hp spec = some h'
  | _, _ => False

theorem con_of {P : Program} {f : FuncId} {fn : Func} {c : Code} {args : List SV} {h h' : Hp} {r : SV} (kss : List (List Nat)) (spec : List (Nat × List Nat)) (n : Nat) (hf : P.funcs[f]? = some fn) (hb : fn.body = some c) (hn : fn.ntmps = n) (hl : decide (args.length ≤ n ∧ n ≤ 2000000) = true)
    (ht : ∀ K, TS P K n (.mk [.code c] .normal ⟨initT 0 args, h⟩) (retC P fn kss spec r h')) : Con P f args h r h' := by
  intro rd g w us hrd hus hargs hholds hdis hnot
  obtain ⟨hl', hfew⟩ := of_decide_eq_true hl
  let K : Ctx := ⟨w, InFoot g h, rd, g.pos, fun _ => none, fun b o v hv => ⟨hrd b o v hv, fun x => by rw [hnot b o x] at hv; cases hv⟩⟩
  have hrdle : rd.le (rdOf K g h w) := by
    intro b o v hv
    unfold rdOf
    rw [if_neg (fun x => by rw [hnot b o x] at hv; cases hv), if_pos ⟨World.block_lt_of_cell? w _ (hrd b o v hv), fun x => by rw [hnot b o x] at hv; cases hv⟩]
    exact hv
  have hR : RG K g n { tmps := us ++ Array.replicate (fn.ntmps - us.size) undef, defers := [] } w ⟨initT 0 args, h⟩ := by
    refine ⟨rfl, by simp; omega, hfew, ⟨Keep.refl _ _, fun d x hx => (hholds d x hx).mono hrdle, fun b o x _ => x, hdis, fun _ _ _ _ => rfl, fun d r hd _ b o hf => .inr ⟨d, r, hd, hf⟩⟩, fun t v hv => ?_⟩
    obtain ⟨_, h2⟩ := look_initT args 0 t v hv
    obtain ⟨u, h3, h4⟩ := hargs (t - 0) v h2
    simp only [Nat.sub_zero] at h3
    refine ⟨u, ?_, h4.mono hrdle⟩
    have htn := (Array.getElem?_eq_some_iff.1 h3).1
    rw [slotAt, if_pos (by omega)]
    rw [Array.getElem?_append_left (Array.getElem?_eq_some_iff.1 h3).1]
    exact h3
  refine calls_of_wp hf hb (wp_mono (ht K _ w ⟨g, hR⟩) fun e a' w' hq => ?_)
  obtain ⟨s', ⟨g', r'⟩, q⟩ := hq
  have fin : ((∃ xs, resL P s' kss fn.results.toList = some xs ∧ resV xs = some r) ∧ pickH s'.hp spec = some h') → a'.defers = [] ∧ ∃ v, (results fn a'.tmps).run P w' = .ok v w' ∧ ∃ u g', Ending.returned v = .returned u ∧ Keep w (InFoot g h) w' ∧ (∀ d cs, 1000000 ≤ d → look h' d = some (.box cs) → g'.pos d = g.pos d) ∧ (∀ b o, InFoot g' h' b o → InFoot g h b o ∨ w.heap.size ≤ b) ∧ Dis g' h' ∧ NewR g' w.heap.size (InFoot g h) h' ∧
      ∀ rd', rd.le rd' → SeesX w (InFoot g h) rd' w' (InFoot g' h') → VRel rd' g' u r ∧ ∀ d x, look h' d = some x → Holds rd' g' w' d x := by
    rintro ⟨⟨xs, h1, h2⟩, h3⟩
    obtain ⟨u, h4, h5⟩ := run_results r'.view h1 h2
    have hpk := fun d x hx => pickH_look spec h3 d x hx
    have hin : ∀ b o, InFoot g' h' b o → InFoot g' s'.hp b o := by
      rintro b o ⟨d, x, q1, q2⟩
      obtain ⟨x0, ks, q3, rfl⟩ := hpk d x q1
      rw [castR_foot] at q2
      exact ⟨d, x0, q3, q2⟩
    refine ⟨r'.defers, u, h4, u, g', rfl, r'.hg.keep, ?_, ?_, ?_, ?_, ?_⟩
    · intro d cs h6 hx
      obtain ⟨x0, ks, q3, q4⟩ := hpk d _ hx
      cases x0 with
      | box cs0 => exact r'.hg.fix d cs0 h6 q3
      | row e s n xs => cases q4
      | spare e s n => cases q4
      | mp L => cases q4
    · intro b o hx
      rcases Nat.lt_or_ge b w.heap.size with hb' | hb'
      · exact .inl (r'.hg.may b o (hin b o hx) hb')
      · exact .inr hb'
    · intro d d' x x' b o hne hx hx' hfo hfo'
      obtain ⟨x0, ks, q3, rfl⟩ := hpk d x hx
      obtain ⟨x1, ks', q4, rfl⟩ := hpk d' x' hx'
      rw [castR_foot] at hfo hfo'
      exact r'.hg.dis d d' x0 x1 b o hne q3 q4 hfo hfo'
    · intro d x hx hb b o hfo
      obtain ⟨x0, ks, q3, rfl⟩ := hpk d x hx
      rw [castR_foot] at hfo
      exact r'.hg.new d x0 q3 (by cases x0 <;> simp_all [castR, Res.isBox]) b o hfo
    · intro rd' hle hs
      have hle' : (rdOf K g' s'.hp w').le rd' := by
        intro b o v hv
        have hcell := rdOf_le g' s'.hp r'.hg.keep b o v hv
        unfold rdOf at hv
        split at hv
        · cases hv
        · rename_i hx
          split at hv
          · exact hle b o v hv
          · rename_i hbb
            refine hs b o v ?_ (fun q => hx (hin b o q)) hcell
            rcases Nat.lt_or_ge b w.heap.size with h6 | h6
            · exact .inr (Classical.byContradiction fun h7 => hbb ⟨h6, h7⟩)
            · exact .inl h6
      refine ⟨h5.mono hle', fun d x hx => ?_⟩
      obtain ⟨x0, ks, q3, rfl⟩ := hpk d x hx
      exact castR_holds ks ((r'.hg.holds d x0 q3).mono hle')
  cases e <;> simp only [QS, retC] at q <;> simp only [bodyPost]
  case normal => exact fin q
  case ret => exact fin q

def argsS (s : St) : List Operand → Option (List SV)
  | [] => some []
  | x :: l => match opd s x, argsS s l with
    | some v, some r => some (v :: r)
    | _, _ => none
theorem argsS_spec {s : St} : ∀ (l : List Operand) (r : List SV), argsS s l = some r → l.length = r.length ∧ ∀ (i : Nat) (x : Operand) (v : SV), l[i]? = some x → r[i]? = some v → opd s x = some v
  | [], r, h => by cases h; exact ⟨rfl, fun i p q h1 => by simp at h1⟩
  | x :: l, r, h => by
    simp only [argsS] at h
    split at h
    · rename_i v r' hv hr
      cases h
      obtain ⟨h1, h2⟩ := argsS_spec l r' hr
      refine ⟨by simp [h1], fun k p q hp hq => ?_⟩
      cases k with
      | zero => cases hp; cases hq; exact hv
      | succ k => exact h2 k p q hp hq
    · cases h
def castArgs : List (List Nat) → List SV → List SV
  | ks :: kss, x :: xs => castV ks x :: castArgs kss xs
  | _, xs => xs
theorem castArgs_get : ∀ (kss : List (List Nat)) (xs : List SV) (i : Nat) (y : SV), (castArgs kss xs)[i]? = some y → ∃ ks x, xs[i]? = some x ∧ y = castV ks x
  | [], xs, i, y, h => ⟨[], y, h, by cases y <;> simp [castV, castL, castTs_nil]⟩
  | _ :: _, [], i, y, h => by simp [castArgs] at h
  | ks :: kss, x :: xs, i, y, h => by
    cases i with
    | zero => simp [castArgs] at h; exact ⟨ks, x, rfl, h.symm⟩
    | succ i => exact castArgs_get kss xs i y (by simpa [castArgs] using h)
theorem castArgs_length : ∀ (kss : List (List Nat)) (xs : List SV), (castArgs kss xs).length = xs.length
  | [], _ => rfl
  | _ :: _, [] => rfl
  | _ :: kss, _ :: xs => by simp [castArgs, castArgs_length kss xs]


def SC.closed (x : SC) : Bool := x.say fun _ => false
theorem closed_rel {rd : Rd} {g g' : Env} (v : Value) (x : SC) (hx : x.closed = true) (h : CRel rd g v x) : CRel rd g' v x := h.env (Rd.le.refl _) (fun _ => false) (fun _ h => by cases h) hx

/-- the function that is called, what stands before its arguments (a method's receiver), and what stands behind them -/
def funOf2 : SV → Option (FuncId × List SC × List SC)
  | .c (.lit (.func (.func f) x y)) => if x.size = 0 ∧ y.size = 0 then some (f, [], []) else none
  | .c (.clo f cs) => some (f % 1000000, cs.take (f / 1000000), cs.drop (f / 1000000))
  | _ => none
theorem funOf2_rel {rd : Rd} {g : Env} {u : Value} {v : SV} {f : FuncId} {ds cs : List SC} (h : VRel rd g u v) (hv : funOf2 v = some (f, ds, cs)) : ∃ first caps : Array Value, u = .func (.func f) first caps ∧ CsRel rd g first ds ∧ CsRel rd g caps cs := by
  unfold funOf2 at hv
  split at hv
  · split at hv
    · rename_i hx
      cases hv
      have := rel_lit h
      subst this
      rw [Array.eq_empty_of_size_eq_zero hx.1, Array.eq_empty_of_size_eq_zero hx.2]
      exact ⟨#[], #[], rfl, ⟨rfl, fun j y hy => by simp at hy⟩, ⟨rfl, fun j y hy => by simp at hy⟩⟩
    · cases hv
  · rename_i f' cs'
    cases hv
    obtain ⟨caps, h1, h2, h3⟩ := h
    refine ⟨_, _, h1, ⟨by simp [h2], fun j y hy => ?_⟩, ⟨by simp [h2], fun j y hy => ?_⟩⟩
    · rw [List.getElem?_take] at hy
      split at hy
      · rename_i hj
        obtain ⟨u, q1, q2⟩ := h3 j y hy
        refine ⟨u, ?_, q2.up⟩
        have hjs := (Array.getElem?_eq_some_iff.1 q1).1
        rw [Array.getElem?_extract, if_pos (by omega), Nat.zero_add]
        exact q1
      · cases hy
    · rw [List.getElem?_drop] at hy
      obtain ⟨u, q1, q2⟩ := h3 _ y hy
      refine ⟨u, ?_, q2.up⟩
      have hjs := (Array.getElem?_eq_some_iff.1 q1).1
      rw [Array.getElem?_extract, if_pos (by omega)]
      exact q1
  · cases hv
/-- values and their shadows, one by one -/
def Match (rd : Rd) (g : Env) (us : Array Value) (vs : List SV) : Prop := us.size = vs.length ∧ ∀ (i : Nat) (x : SV), vs[i]? = some x → ∃ u, us[i]? = some u ∧ VRel rd g u x
theorem Match.append {rd : Rd} {g : Env} {us us' : Array Value} {vs vs' : List SV} (h : Match rd g us vs) (k : Match rd g us' vs') : Match rd g (us ++ us') (vs ++ vs') := by
  refine ⟨by simp [h.1, k.1], fun i x hx => ?_⟩
  by_cases hi : i < vs.length
  · rw [List.getElem?_append_left hi] at hx
    obtain ⟨u, q1, q2⟩ := h.2 i x hx
    exact ⟨u, by rw [Array.getElem?_append_left (by rw [h.1]; exact hi)]; exact q1, q2⟩
  · rw [List.getElem?_append_right (by omega)] at hx
    obtain ⟨u, q1, q2⟩ := k.2 _ x hx
    refine ⟨u, ?_, q2⟩
    rw [Array.getElem?_append_right (by rw [h.1]; omega), h.1]
    exact q1
theorem Match.of_cs {rd : Rd} {g : Env} {us : Array Value} {cs : List SC} (h : CsRel rd g us cs) : Match rd g us (cs.map SV.c) := by
  refine ⟨by simp [h.1], fun i x hx => ?_⟩
  rw [List.getElem?_map] at hx
  obtain ⟨y, hy, rfl⟩ := Option.map_eq_some_iff.1 hx
  exact h.2 i y hy
def calleeOf (s : St) (o : Oper) : Option (FuncId × List SV) := match o.op with
  | .call { callee := .value fo, args := xs, argTypes := _ } => match opd s fo, argsS s xs.toList with
    | some fv, some vs => match funOf2 fv with
      | some (f, ds, cs) => some (f, ds.map SV.c ++ (vs ++ cs.map SV.c))
      | none => none
    | _, _ => none
  | _ => none
def hasBody (P : Program) (f : FuncId) : Bool := match P.funcs[f]? with
  | some fn => !(fn.name == "runtime.NumGoroutine") && fn.body.isSome
  | none => false
theorem callee_spec {P : Program} {s : St} {o : Oper} {f : FuncId} {vs : List SV} (h : calleeOf s o = some (f, vs)) (hb : hasBody P f = true) {g : Env} {rd : Rd} {a : Act} {w : World} (hv : OView g rd a w s o) :
    ∃ us : Array Value, us.size = vs.length ∧ (∀ (i : Nat) (x : SV), vs[i]? = some x → ∃ u, us[i]? = some u ∧ VRel rd g u x) ∧ (execOp a.eval o).run P w = .ok (.enter f us) w := by
  unfold calleeOf at h
  split at h
  · rename_i fo xs ts ho
    split at h
    · rename_i fv vs' hfo hvs
      split at h
      · rename_i f' ds cs hfc
        cases h
        obtain ⟨hl, hget⟩ := argsS_spec _ _ hvs
        obtain ⟨first, caps, h1, hfst, hcap⟩ := funOf2_rel (hv.op fo _ (by simp [ho, Op.operands, Call.operands]) hfo) hfc
        have hxs : xs.size = vs'.length := by rw [← hl]; simp
        have hmid : Match rd g (xs.map a.eval) vs' := by
          refine ⟨by simp [hxs], fun i x hx => ?_⟩
          have hi : i < vs'.length := (List.getElem?_eq_some_iff.1 hx).1
          have hi2 : i < xs.toList.length := by rw [hl]; exact hi
          have := hget i xs.toList[i] x (List.getElem?_eq_getElem hi2) hx
          refine ⟨a.eval xs.toList[i], ?_, hv.op _ _ ?_ this⟩
          · simp only [Array.length_toList] at hi2
            simp [hi2]
          · rw [ho]
            simp only [Op.operands, Call.operands, Array.toList_append]
            exact List.mem_append_right _ (List.getElem_mem _)
        obtain ⟨hm1, hm2⟩ := (Match.of_cs hfst).append (hmid.append (Match.of_cs hcap))
        refine ⟨first ++ (xs.map a.eval ++ caps), hm1, hm2, ?_⟩
        · unfold hasBody at hb
          split at hb
          · rename_i fn hf
            simp only [Bool.and_eq_true, Bool.not_eq_true', Option.isSome_iff_ne_none] at hb
            have hbody : fn.body.isNone = false := by cases hq : fn.body <;> simp_all
            simp only [execOp, ho, resolve, h1, Deferred.ofValue, invoke, callFunc, program, hf, hb.1, hbody, Bool.false_eq_true, if_false, Sem.run_bind, Sem.run_pure, Sem.run, Result.andThen_ok, Array.append_assoc]
          · cases hb
      · cases h
    · cases h
  · cases h
end
section
open Go.RowKit

theorem infoot_nil {g : Env} {b o : Nat} (h : InFoot g [] b o) : False := by obtain ⟨d, r, h1, _⟩ := h; simp [look] at h1
theorem grow_con {P : Program} {o : Oper} {s : St} {r : SV} {f : FuncId} {vs args : List SV} (kss : List (List Nat)) (hc : calleeOf s o = some (f, vs)) (hb : hasBody P f = true) (hargs : castArgs kss vs = args) (hr : r.every SC.closed = true) (hp : Con P f args [] r []) : GrowOp P o s r := by
  intro g rd a w hview
  obtain ⟨us, h1, h2, h3⟩ := callee_spec hc hb hview
  have hcalls := hp rd g w us hview.reads (by rw [← hargs, castArgs_length]; exact h1) (fun i y hy => by
    rw [← hargs] at hy
    obtain ⟨ks, x, hx, rfl⟩ := castArgs_get kss vs i y hy
    obtain ⟨u, q1, q2⟩ := h2 i x hx
    exact ⟨u, q1, castV_rel ks q2⟩) (fun d x hx => by simp [look] at hx) (fun d d' x x' b o _ hx => by simp [look] at hx) (fun b o hx => (infoot_nil hx).elim)
  unfold mSafe
  rw [h3]
  refine hcalls.mono fun e w' hq => ?_
  obtain ⟨u, g', rfl, hk, _, _, _, _, hpost⟩ := hq
  refine ⟨u, rfl, (hk.weak (fun b o x => (infoot_nil x))).ext, fun rd' hle hs => ?_⟩
  exact ((hpost rd' hle (fun b o u h1 _ h2 => hs b o u (h1.elim id fun x => (infoot_nil x).elim) h2)).1).imp1 (fun v x hx k => closed_rel v x hx k) hr

def ren1 (d off : Nat) : SC → SC
  | .box e o => if e = 1000000 then .box d (off + o) else .box e o
  | x => x
def renV (d off : Nat) : SV → SV
  | .c x => .c (ren1 d off x)
  | x => x
def SC.okP : SC → Bool
  | .box e _ => e == 1000000
  | x => x.closed
def SV.okP : SV → Bool
  | .c x => x.okP
  | x => x.every SC.closed
theorem ren_rel {rd : Rd} {g : Env} {u : Value} {x : SV} {d off : Nat} (hx : x.okP = true) (h : VRel rd g u (renV d off x)) : VRel rd (g.setPos 1000000 ((g.pos d).1, (g.pos d).2 + off)) u x := by
  cases x with
  | c x =>
    cases x with
    | box e o =>
      have he : e = 1000000 := by simpa [SV.okP, SC.okP] using hx
      subst he
      simp only [renV, ren1, if_true, VRel, CRel, CRel0] at h
      simp only [VRel, CRel, CRel0, Env.setPos, if_true]
      rw [h, Nat.add_assoc]
    | lit v => exact closed_rel (g := g) (g' := g.setPos 1000000 ((g.pos d).1, (g.pos d).2 + off)) u (.lit v) hx h
    | slc a b c e => exact closed_rel (rd := rd) (g := g) (g' := g.setPos 1000000 ((g.pos d).1, (g.pos d).2 + off)) u (.slc a b c e) hx h
    | ref a => exact closed_rel (g := g) (g' := g.setPos 1000000 ((g.pos d).1, (g.pos d).2 + off)) u (.ref a) hx h
    | own a => exact closed_rel (rd := rd) (g := g) (g' := g.setPos 1000000 ((g.pos d).1, (g.pos d).2 + off)) u (.own a) hx h
    | row a b => exact closed_rel (rd := rd) (g := g) (g' := g.setPos 1000000 ((g.pos d).1, (g.pos d).2 + off)) u (.row a b) hx h
    | win a b c => exact closed_rel (rd := rd) (g := g) (g' := g.setPos 1000000 ((g.pos d).1, (g.pos d).2 + off)) u (.win a b c) hx h
    | sub a b c e => exact closed_rel (rd := rd) (g := g) (g' := g.setPos 1000000 ((g.pos d).1, (g.pos d).2 + off)) u (.sub a b c e) hx h
    | elt a b c e => exact closed_rel (rd := rd) (g := g) (g' := g.setPos 1000000 ((g.pos d).1, (g.pos d).2 + off)) u (.elt a b c e) hx h
    | any => trivial
    | clo a b => exact closed_rel (rd := rd) (g := g) (g' := g.setPos 1000000 ((g.pos d).1, (g.pos d).2 + off)) u (.clo a b) hx h
    | ex a => exact closed_rel (rd := rd) (g := g) (g' := g.setPos 1000000 ((g.pos d).1, (g.pos d).2 + off)) u (.ex a) hx h
  | agg cs => exact h.imp1 (fun v x hx k => closed_rel v x hx k) hx
  | tup vs => exact h.imp1 (fun v x hx k => closed_rel v x hx k) hx

/-- new resources: (the caller's name, the callee's name) -/
def backL (news : List (Nat × Nat)) (e : Nat) : Nat := match news.find? (fun p => p.2 == e) with
  | some p => p.1
  | none => e
def newsHp (h' : Hp) (ρ : Nat → Nat) : List (Nat × Nat) → Hp → Hp
  | [], hp => hp
  | (d, e) :: l, hp => match look h' e with
    | some x => (d, x.map (SC.ren ρ)) :: newsHp h' ρ l hp
    | none => newsHp h' ρ l hp
theorem look_news (h' : Hp) (ρ : Nat → Nat) (hp : Hp) (d : Nat) : ∀ (news : List (Nat × Nat)), (news.all fun p => (look h' p.2).isSome) = true → look (newsHp h' ρ news hp) d = match look news d with
    | some e => (look h' e).map (Res.map (SC.ren ρ))
    | none => look hp d
  | [], _ => rfl
  | (d0, e) :: l, hall => by
    simp only [List.all_cons, Bool.and_eq_true] at hall
    obtain ⟨x, hx⟩ := Option.isSome_iff_exists.1 hall.1
    simp only [newsHp, hx, look_cons]
    split
    · simp [hx]
    · exact look_news h' ρ hp d l hall.2
def Env.news (g g' : Env) (news : List (Nat × Nat)) : Env where
  pos := fun d => match look news d with
    | some e => g'.pos e
    | none => g.pos d
  tk := fun d => match look news d with
    | some e => g'.tk e
    | none => g.tk d
theorem Holds.ren {rd rd' : Rd} (hle : rd.le rd') {g g' : Env} {w : World} {d : Nat} {r : Res} (f : Nat → Nat) (p : Nat → Bool) (hp : ∀ d, p d = true → g'.pos (f d) = g.pos d ∧ g'.tk (f d) = g.tk d) (hd : p d = true) (hr : r.every (SC.say p) = true) (h : Holds rd g w d r) : Holds rd' g' w (f d) (r.map (SC.ren f)) := by
  cases r with
  | box cs =>
    intro j y hy
    rw [List.getElem?_map] at hy
    obtain ⟨y0, hy0, rfl⟩ := Option.map_eq_some_iff.1 hy
    obtain ⟨u, h1, h2, h3⟩ := h j y0 hy0
    rw [(hp d hd).1]
    exact ⟨u, h1, h2, h3.ren hle f p hp (List.all_eq_true.1 hr y0 (List.mem_of_getElem? hy0))⟩
  | row e s n xs => simp only [Res.map, Holds, (hp d hd).2]; exact (Holds.mono hle h)
  | spare e s n => simp only [Res.map, Holds, (hp d hd).2]; exact h
  | mp L => simp only [Res.map, Holds, (hp d hd).2]; exact h

/-- the places that may be named by what the callee leaves -/
def okN (news : List (Nat × Nat)) (e : Nat) : Bool := look news (backL news e) == some e
def newsOk (s : St) (h' : Hp) (r : SV) (news : List (Nat × Nat)) (ex : Option Nat) : Bool :=
  (news.all fun p => (look h' p.2).isSome && decide (p.1 < 1000000) && decide (backL news p.2 = p.1) && decide (look news p.1 = some p.2) && (look s.hp p.1).isNone && decide (p.2 < 1000000)) &&
  (s.tmps.all fun q => some q.1 == ex || q.2.every (SC.say fun d => (look news d).isNone)) && (s.hp.all fun q => q.2.every (SC.say fun d => (look news d).isNone)) &&
  r.every (SC.say (okN news)) && (h'.all fun q => q.1 == 1000000 || q.2.every (SC.say (okN news)))

section
variable {P : Program} {K : Ctx} {n : Nat} {ops : Array Oper} {l : List Oper} {o : Oper} {s s' : St} {g : Env} {a : Act} {w : World}

def argsFor : Option (Nat × Nat) → List SV → List SV
  | some (d, off), args => args.map (renV d off)
  | none, args => args
def okFor : Option (Nat × Nat) → SV → Bool
  | some _, v => v.okP
  | none, v => v.every SC.closed
def PdOk (s : St) (h h' : Hp) (news : List (Nat × Nat)) : Option (Nat × Nat) → Prop
  | some (d, off) => ∃ csD cs cs', look s.hp d = some (.box csD) ∧ h = [(1000000, .box cs)] ∧ look h' 1000000 = some (.box cs') ∧ cs.all SC.closed = true ∧ cs'.all SC.closed = true ∧ (csD.drop off).take cs.length = cs ∧ cs'.length = cs.length ∧ off + cs.length ≤ csD.length ∧ look news d = none
  | none => h = []
def hpAfter (s : St) (h' : Hp) : Option (Nat × Nat) → Hp
  | some (d, off) => match look h' 1000000, look s.hp d with
    | some (.box cs'), some (.box cs) => setL d (.box (over cs off cs')) s.hp
    | _, _ => s.hp
  | none => s.hp
/-- the state afterwards -/
def St.after (s : St) (h' : Hp) (r : SV) (news : List (Nat × Nat)) (pd : Option (Nat × Nat)) (dst : Option Tmp) : St :=
  St.put { s with hp := newsHp h' (backL news) news (hpAfter s h' pd) } dst (r.map (SC.ren (backL news)))

theorem S_conL {f : FuncId} {vs args : List SV} {h' : Hp} {r : SV} {h : Hp} (kss : List (List Nat)) (news : List (Nat × Nat)) (pd : Option (Nat × Nat)) (hgd : guardOf ops o s = some true) (hd : dstOk n o = true) (hc : calleeOf s o = some (f, vs)) (hb : hasBody P f = true)
    (hargs : castArgs kss vs = argsFor pd args) (hok : args.all (okFor pd) = true) (hpd : PdOk s h h' news pd)
    (hn1 : ∀ p ∈ news, ((((((look h' p.2).isSome = true ∧ decide (p.1 < 1000000) = true) ∧ decide (backL news p.2 = p.1) = true) ∧ decide (look news p.1 = some p.2) = true) ∧ (look s.hp p.1).isNone = true) ∧ decide (p.2 < 1000000) = true)) (hn2 : ∀ t v, look s.tmps t = some v → (some t == o.dst || v.every (SC.say fun d => (look news d).isNone)) = true) (hn3 : ∀ d r, look s.hp d = some r → r.every (SC.say fun d => (look news d).isNone) = true) (hn4 : r.every (SC.say (okN news)) = true) (hn5 : ∀ q ∈ h', (q.1 == 1000000 || q.2.every (SC.say (okN news))) = true) (hp : Con P f args h r h') : Stp P K n ops o s (s.after h' r news pd o.dst) := by
  have hall : (news.all fun p => (look h' p.2).isSome) = true := List.all_eq_true.2 (fun p hp => (hn1 p hp).1.1.1.1.1)
  have nw : ∀ d e, look news d = some e → d < 1000000 ∧ backL news e = d ∧ look s.hp d = none ∧ e < 1000000 := by
    intro d e hde
    have hm := hn1 _ (look_mem hde)
    exact ⟨of_decide_eq_true hm.1.1.1.1.2, of_decide_eq_true hm.1.1.1.2, by simpa using hm.1.2, of_decide_eq_true hm.2⟩
  refine Stp_mk hgd fun g a w rg K' Q hK => ?_
  have hview := rg.view.o o
  obtain ⟨us, h1, h2, h3⟩ := callee_spec hc hb hview
  -- the callee's environment at the start
  obtain ⟨gc, hgc1, hgc2, hgc3, hgc4, hgc5⟩ : ∃ gc : Env, (∀ (i : Nat) (y : SV), args[i]? = some y → ∃ u, us[i]? = some u ∧ VRel (rdOf K g s.hp w) gc u y) ∧ (∀ d x, look h d = some x → Holds (rdOf K g s.hp w) gc w d x) ∧ Dis gc h ∧ (∀ b o, InFoot gc h b o → rdOf K g s.hp w b o = none) ∧
      (match pd with | some (d, off) => ∀ cs', look h' 1000000 = some (.box cs') → (∀ b o, InFoot gc h b o ↔ b = (g.pos d).1 ∧ (g.pos d).2 + off ≤ o ∧ o < (g.pos d).2 + off + cs'.length) ∧ gc.pos 1000000 = ((g.pos d).1, (g.pos d).2 + off) | none => ∀ b o, ¬ InFoot gc h b o) := by
    cases pd with
    | none =>
      simp only [PdOk] at hpd
      subst hpd
      refine ⟨g, fun i y hy => ?_, fun d x hx => by simp [look] at hx, fun d d' x x' b o _ hx => by simp [look] at hx, fun b o hx => (infoot_nil hx).elim, fun b o hx => infoot_nil hx⟩
      simp only [argsFor] at hargs
      rw [← hargs] at hy
      obtain ⟨ks, x, hx, rfl⟩ := castArgs_get kss vs i y hy
      obtain ⟨u, q1, q2⟩ := h2 i x hx
      exact ⟨u, q1, castV_rel ks q2⟩
    | some p =>
      obtain ⟨d, off⟩ := p
      obtain ⟨csD, cs, cs', hl, rfl, hl', hcl, hcl', hcs, hlen, hsz, _⟩ := hpd
      have hlook : ∀ e x, look [(1000000, Res.box cs)] e = some x → e = 1000000 ∧ x = .box cs := by
        intro e x he
        rw [look_cons] at he
        split at he
        · rename_i hq; cases he; exact ⟨hq.symm, rfl⟩
        · simp [look] at he
      have hpos : (g.setPos 1000000 ((g.pos d).1, (g.pos d).2 + off)).pos 1000000 = ((g.pos d).1, (g.pos d).2 + off) := by simp [Env.setPos]
      refine ⟨g.setPos 1000000 ((g.pos d).1, (g.pos d).2 + off), fun i y hy => ?_, fun e x he => ?_, ?_, ?_, ?_⟩
      · have hy2 : (args.map (renV d off))[i]? = some (renV d off y) := by rw [List.getElem?_map, hy]; rfl
        simp only [argsFor] at hargs
        rw [← hargs] at hy2
        obtain ⟨ks, x, hx, hxe⟩ := castArgs_get kss vs i _ hy2
        obtain ⟨u, q1, q2⟩ := h2 i x hx
        have hrel := castV_rel ks q2
        rw [← hxe] at hrel
        exact ⟨u, q1, ren_rel (List.all_eq_true.1 hok y (List.mem_of_getElem? hy)) hrel⟩
      · obtain ⟨rfl, rfl⟩ := hlook e x he
        intro j y hy
        rw [hpos]
        have hy' := hy
        rw [← hcs, List.getElem?_take] at hy'
        split at hy'
        · rw [List.getElem?_drop] at hy'
          obtain ⟨u, k1, k2, k3⟩ := rg.hg.holds d _ hl _ y hy'
          simp only [Nat.add_assoc]
          exact ⟨u, k1, k2, closed_rel u y (List.all_eq_true.1 hcl y (List.mem_of_getElem? hy)) k3⟩
        · cases hy'
      · intro e e' x x' b o' hne he he'
        obtain ⟨rfl, _⟩ := hlook e x he
        obtain ⟨rfl, _⟩ := hlook e' x' he'
        exact absurd rfl hne
      · rintro b o' ⟨e, x, he, hf⟩
        obtain ⟨rfl, rfl⟩ := hlook e x he
        simp only [Foot, hpos] at hf
        exact rdOf_none ⟨d, _, hl, hf.1, by omega, by omega⟩
      · intro cs'' hl''
        rw [hl'] at hl''; cases hl''
        refine ⟨fun b o' => ⟨?_, fun hf => ⟨1000000, _, rfl, ?_⟩⟩, hpos⟩
        · rintro ⟨e, x, he, hf⟩
          obtain ⟨rfl, rfl⟩ := hlook e x he
          simp only [Foot, hpos] at hf
          rw [hlen]; exact hf
        · simp only [Foot, hpos]; rw [← hlen]; exact hf
  have hcalls := hp (rdOf K g s.hp w) gc w us hview.reads (by
    rw [h1]
    have := congrArg List.length hargs
    rw [castArgs_length] at this
    rw [this]
    cases pd <;> simp [argsFor]) hgc1 hgc2 hgc3 hgc4
  unfold Oper.wp
  rw [h3]
  simp only [Oper.upon]
  refine hcalls.mono fun e w' hq => ?_
  obtain ⟨u, g', rfl, hkeep, hpos', hin, hdis', hnewr, hpost⟩ := hq
  simp only
  -- afterwards
  let g2 := g.news g' news
  let hp1 : Hp := hpAfter s h' pd
  let hp2 := newsHp h' (backL news) news hp1
  have lk2 : ∀ d, look hp2 d = match look news d with
    | some e => (look h' e).map (Res.map (SC.ren (backL news)))
    | none => look hp1 d := fun d => look_news h' _ hp1 d news hall
  have hren : ∀ e, okN news e = true → g2.pos (backL news e) = g'.pos e ∧ g2.tk (backL news e) = g'.tk e := by
    intro e he
    simp only [okN, beq_iff_eq] at he
    simp only [g2, Env.news, he, and_self]
  have hok2 : ∀ d e, look news d = some e → okN news e = true := by
    intro d e hde
    simp only [okN, beq_iff_eq, (nw d e hde).2.1, hde]
  let p : Nat → Bool := fun d => (look news d).isNone
  have hp0 : ∀ d, p d = true → g2.pos d = g.pos d ∧ g2.tk d = g.tk d := by
    intro d hd'
    simp only [p, Option.isNone_iff_eq_none] at hd'
    simp only [g2, Env.news, hd', and_self]
  let t : Nat → Bool := fun d => (look news d).isSome || (match pd with | some (d0, _) => d == d0 | none => false)
  have ht0 : ∀ d, t d = false → look news d = none := by
    intro d hd'
    simp only [t, Bool.or_eq_false_iff] at hd'
    simpa using hd'.1
  -- what is not new
  have lk1 : ∀ d, t d = false → look hp1 d = look s.hp d := by
    intro d hd'
    simp only [t, Bool.or_eq_false_iff] at hd'
    cases pd with
    | none => rfl
    | some q =>
      obtain ⟨d0, off⟩ := q
      simp only [hp1, hpAfter]
      split
      · rw [look_setL, if_neg (fun e => by subst e; simp at hd')]
      · rfl
  have hkp : ∀ b o', InFoot gc h b o' → ∃ d r, t d = true ∧ look s.hp d = some r ∧ Foot g d r b o' := by
    intro b o' hx
    cases pd with
    | none => exact absurd hx (hgc5 b o')
    | some q =>
      obtain ⟨d0, off⟩ := q
      obtain ⟨csD, cs, cs', hl, _, hl', _, _, _, hlen, hsz, _⟩ := hpd
      have := ((hgc5 cs' hl').1 b o').1 hx
      exact ⟨d0, _, by simp [t], hl, this.1, by omega, by omega⟩
  have hk2 : Keep w (fun b o => ∃ d r, t d = true ∧ look s.hp d = some r ∧ Foot g d r b o) w' := hkeep.weak hkp
  -- the footprint of what is touched
  have hfn : ∀ d e x, look news d = some e → Foot g2 d (Res.map (SC.ren (backL news)) x) = Foot g' e x := by
    intro d e x hde
    rw [foot_map]
    have := hren e (hok2 d e hde)
    rw [(nw d e hde).2.1] at this
    funext b o'
    cases x <;> simp only [Foot, this.1, this.2]
  have hcase : ∀ d r, t d = true → look hp2 d = some r → (∃ e x, look news d = some e ∧ look h' e = some x ∧ r = x.map (SC.ren (backL news))) ∨ (∃ off csD cs', pd = some (d, off) ∧ look news d = none ∧ look s.hp d = some (.box csD) ∧ look h' 1000000 = some (.box cs') ∧ r = .box (over csD off cs') ∧ off + cs'.length ≤ csD.length) := by
    intro d r hd' hr
    rw [lk2] at hr
    cases hnd : look news d with
    | some e =>
      rw [hnd] at hr
      obtain ⟨x, hx, rfl⟩ := Option.map_eq_some_iff.1 hr
      exact .inl ⟨e, x, rfl, hx, rfl⟩
    | none =>
      rw [hnd] at hr
      right
      simp only [t, hnd, Option.isSome_none, Bool.false_or] at hd'
      cases pd with
      | none => cases hd'
      | some q =>
        obtain ⟨d0, off⟩ := q
        have : d = d0 := by simpa using hd'
        subst this
        obtain ⟨csD, cs, cs', hl, _, hl', _, _, _, hlen, hsz, _⟩ := hpd
        simp only [hp1, hpAfter, hl', hl, look_setL, if_true] at hr
        cases hr
        exact ⟨off, csD, cs', rfl, rfl, hl, hl', rfl, by omega⟩
  have hf2 : ∀ d r b o, t d = true → look hp2 d = some r → Foot g2 d r b o → (∃ e r0, t e = true ∧ look s.hp e = some r0 ∧ Foot g e r0 b o) ∨ w.heap.size ≤ b := by
    intro d r b o' hd' hr hfo
    rcases hcase d r hd' hr with ⟨e, x, h4, h5, rfl⟩ | ⟨off, csD, cs', h4, h5, h6, h7, rfl, h8⟩
    · rw [hfn d e x h4] at hfo
      rcases hin b o' ⟨e, x, h5, hfo⟩ with h6 | h6
      · exact .inl (hkp b o' h6)
      · exact .inr h6
    · refine .inl ⟨d, _, hd', h6, ?_⟩
      simp only [Foot, over_length h8, (hp0 d (by simp [p, h5])).1] at hfo
      exact hfo
  have hl2 : ∀ d r', t d = false → look hp2 d = some r' → look s.hp d = some r' := by
    intro d r' hd' hr
    rw [lk2, ht0 d hd'] at hr
    rw [← lk1 d hd']
    exact hr
  have he2 : ∀ d r, t d = false → look s.hp d = some r → g2.pos d = g.pos d ∧ g2.tk d = g.tk d := fun d r hd' _ => hp0 d (by simp [p, ht0 d hd'])
  have hle := rd_step (K := K) (g := g) (g' := g2) (w := w) (w' := w') (h := s.hp) (h' := hp2) rg.hg t he2 (fun d r' h4 h5 => ⟨r', fun y => y, hl2 d r' h4 h5, r'.map_id.symm⟩) hk2 hf2
  have hsees : SeesX w (InFoot gc h) (rdOf K g2 hp2 w') w' (InFoot g' h') := by
    intro b o' u' hb0 hx hcell
    have hb' : w.heap.size ≤ b := by
      rcases hb0 with h4 | h4
      · exact h4
      · exfalso
        cases pd with
        | none => exact hgc5 b o' h4
        | some q =>
          obtain ⟨d0, off⟩ := q
          obtain ⟨csD, cs, cs', hl, _, hl', _, _, _, hlen, hsz, _⟩ := hpd
          have h5 := hgc5 cs' hl'
          have h6 := (h5.1 b o').1 h4
          refine hx ⟨1000000, _, hl', ?_⟩
          simp only [Foot, hpos' 1000000 cs' (Nat.le_refl _) hl', h5.2]
          exact h6
    refine rdOf_sees (g' := g2) (h' := hp2) rg.hg (may := fun _ _ => False) (fun _ _ h => h.elim) b o' u' (.inl hb') ?_ hcell
    rintro ⟨d, r0, q1, q2⟩
    cases hd' : t d with
    | false =>
      have q3 := hl2 d r0 hd' q1
      rw [foot_env (he2 d r0 hd' q3)] at q2
      have := (rg.hg.holds d r0 q3).lt q2
      omega
    | true =>
      rcases hcase d r0 hd' q1 with ⟨e, x, h4, h5, rfl⟩ | ⟨off, csD, cs', h4, h5, h6, h7, rfl, h8⟩
      · rw [hfn d e x h4] at q2
        exact hx ⟨e, x, h5, q2⟩
      · simp only [Foot, over_length h8, (hp0 d (by simp [p, h5])).1] at q2
        have := (rg.hg.holds d _ h6).lt (b := b) (o := o') q2
        omega
  obtain ⟨hres, hhold⟩ := hpost _ hle hsees
  have hHG : HG K g2 w' hp2 := by
    refine rg.hg.step (g' := g2) (w' := w') (h' := hp2) t (fun y => y) (SC.say p) he2 (fun d r' h4 h5 => ⟨r', hl2 d r' h4 h5, r'.map_id.symm, hn3 _ _ (hl2 d r' h4 h5)⟩) hk2 hf2 ?_ (fun u' x hx hcr => hcr.env hle p hp0 hx) ?_ ?_ ?_
    · -- touched names lie apart
      have mixed : ∀ d d' r r' b o', (∃ e x, look news d = some e ∧ look h' e = some x ∧ r = x.map (SC.ren (backL news))) → (∃ off csD cs', pd = some (d', off) ∧ look news d' = none ∧ look s.hp d' = some (.box csD) ∧ look h' 1000000 = some (.box cs') ∧ r' = .box (over csD off cs') ∧ off + cs'.length ≤ csD.length) → Foot g2 d r b o' → ¬ Foot g2 d' r' b o' := by
        rintro d d' r r' b o' ⟨e, x, h4, h5, rfl⟩ ⟨off, csD, cs', h6, h7, h8, h9, rfl, h10⟩ hfo hfo'
        rw [hfn d e x h4] at hfo
        simp only [Foot, over_length h10, (hp0 d' (by simp [p, h7])).1] at hfo'
        subst h6
        have hg5 := hgc5 cs' h9
        have hwin : InFoot gc h b o' := by
          rcases hin b o' ⟨e, x, h5, hfo⟩ with h11 | h11
          · exact h11
          · have := (rg.hg.holds d' _ h8).lt (b := b) (o := o') hfo'
            omega
        have h12 := (hg5.1 b o').1 hwin
        have h13 := hpos' 1000000 cs' (Nat.le_refl _) h9
        refine hdis' 1000000 e _ x b o' ?_ h9 h5 ?_ hfo
        · have := (nw d e h4).2.2.2; omega
        · simp only [Foot, h13, hg5.2]
          exact h12
      intro d d' r r' b o' hd' hd'' hne hr hr' hfo hfo'
      rcases hcase d r hd' hr with h4 | h4
      · rcases hcase d' r' hd'' hr' with h5 | h5
        · obtain ⟨e, x, h6, h7, rfl⟩ := h4
          obtain ⟨e', x', h8, h9, rfl⟩ := h5
          rw [hfn d e x h6] at hfo
          rw [hfn d' e' x' h8] at hfo'
          refine hdis' e e' x x' b o' (fun hee => hne ?_) h7 h9 hfo hfo'
          rw [← (nw d e h6).2.1, ← (nw d' e' h8).2.1, hee]
        · exact mixed d d' r r' b o' h4 h5 hfo hfo'
      · rcases hcase d' r' hd'' hr' with h5 | h5
        · exact mixed d' d r' r b o' h5 h4 hfo' hfo
        · obtain ⟨off, csD, cs', h6, _⟩ := h4
          obtain ⟨off', csD', cs'', h7, _⟩ := h5
          rw [h6] at h7
          cases h7
          exact hne rfl
    · intro d r0 hd' hr
      rcases hcase d r0 hd' hr with ⟨e, x, h4, h5, rfl⟩ | ⟨off, csD, cs', h4, h5, h6, h7, rfl, h8⟩
      · have := (hhold e x h5).ren (Rd.le.refl _) (backL news) (okN news) hren (hok2 d e h4) (by
          have := hn5 _ (look_mem h5)
          simp only [Bool.or_eq_true, beq_iff_eq] at this
          rcases this with h9 | h9
          · have := (nw d e h4).2.2.2; omega
          · exact h9)
        rw [(nw d e h4).2.1] at this
        exact this
      · have hpd0 := hp0 d (by simp [p, h5])
        subst h4
        obtain ⟨csD', cs, cs'', hl, _, hl', _, hcl', _, hlen, hsz, _⟩ := hpd
        rw [h6] at hl; cases hl
        rw [h7] at hl'; cases hl'
        have hg5 := hgc5 cs' h7
        intro j y hy
        rw [hpd0.1]
        rw [over_get h8] at hy
        by_cases hj : off ≤ j ∧ j < off + cs'.length
        · rw [if_pos hj] at hy
          obtain ⟨u', k1, k2, k3⟩ := hhold 1000000 _ h7 _ y hy
          rw [hpos' 1000000 cs' (Nat.le_refl _) h7, hg5.2] at k1 k2
          simp only [show (g.pos d).2 + off + (j - off) = (g.pos d).2 + j by omega] at k1 k2
          exact ⟨u', k1, k2, closed_rel u' y (List.all_eq_true.1 hcl' y (List.mem_of_getElem? hy)) k3⟩
        · rw [if_neg hj] at hy
          obtain ⟨u', k1, k2, k3⟩ := rg.hg.holds d _ h6 j y hy
          refine ⟨u', hkeep.cell k1 (fun hx => ?_), by rw [hkeep.frozen (World.block_lt_of_cell? w _ k1)]; exact k2, k3.env hle p hp0 (List.all_eq_true.1 (hn3 _ _ h6) y (List.mem_of_getElem? hy))⟩
          have := (hg5.1 _ _).1 hx
          omega
    · intro d cs0 hd' h6 hr
      rcases hcase d _ hd' hr with ⟨e, x, h4, h5, _⟩ | ⟨off, csD, cs', h4, h5, h7, _⟩
      · have := (nw d e h4).1; omega
      · rw [(hp0 d (by simp [p, h5])).1]
        exact rg.hg.fix d csD h6 h7
    · intro d r hd' hr hb b o' hfo
      rcases hcase d _ hd' hr with ⟨e, x, h4, h5, rfl⟩ | ⟨off, csD, cs', h4, h5, h7, h8, h9, _⟩
      · rw [hfn d e x h4] at hfo
        exact (hnewr e x h5 (by cases x <;> simp_all [Res.isBox, Res.map]) b o' hfo).elim (fun q => .inl (Nat.le_trans rg.hg.keep.size q)) (fun q => (Nat.lt_or_ge b K.w0.heap.size).elim (fun q2 => .inr (by obtain ⟨d3, r3, _, q4, q5⟩ := hkp b o' q; exact rg.hg.may b o' ⟨d3, r3, q4, q5⟩ q2)) .inl)
      · subst h9; cases hb
  have hput := (rg.move hHG hle p hp0 (match o.dst with | some t => drop1 s.tmps t | none => s.tmps) (fun t' v hv => by
    cases hds : o.dst with
    | none =>
      rw [hds] at hv
      refine ⟨hv, ?_⟩
      have := hn2 _ _ hv
      simpa [hds] using this
    | some t0 =>
      rw [hds] at hv
      simp only [look_drop1] at hv
      split at hv
      · cases hv
      · rename_i hne
        refine ⟨hv, ?_⟩
        have := hn2 _ _ hv
        simp only [hds, Bool.or_eq_true, beq_iff_eq, Option.some.injEq] at this
        rcases this with h4 | h4
        · exact absurd h4 hne
        · exact h4)).put o.dst (dstOk_spec hd) (hres.imp (fun v x hx k => k.ren (Rd.le.refl _) (backL news) (okN news) hren hx) hn4)
  refine hK _ _ ⟨g2, hput.sim (fun k => ?_) ?_⟩
  · cases hds : o.dst with
    | none => rfl
    | some t0 =>
      simp only [St.after]
      exact (put_drop _ t0 _ k).symm
  · cases hds : o.dst <;> rfl
theorem S_con {f : FuncId} {vs args : List SV} {h' : Hp} {r : SV} {h : Hp} (kss : List (List Nat)) (news : List (Nat × Nat)) (pd : Option (Nat × Nat)) (hgd : guardOf ops o s = some true) (hd : dstOk n o = true) (hc : calleeOf s o = some (f, vs)) (hb : hasBody P f = true)
    (hargs : castArgs kss vs = argsFor pd args) (hok : args.all (okFor pd) = true) (hpd : PdOk s h h' news pd)
    (hn : newsOk s h' r news o.dst = true) (hp : Con P f args h r h') : Stp P K n ops o s (s.after h' r news pd o.dst) := by
  simp only [newsOk, Bool.and_eq_true, List.all_eq_true] at hn
  obtain ⟨⟨⟨⟨hn1, hn2⟩, hn3⟩, hn4⟩, hn5⟩ := hn
  exact S_conL kss news pd hgd hd hc hb hargs hok hpd hn1 (fun t v hv => hn2 _ (look_mem hv)) (fun d r hr => hn3 _ (look_mem hr)) hn4 hn5 hp
end
end
section
open Go.RowKit

theorem R_know {K : Ctx} {n : Nat} {a : Act} {w : World} {s : St} {t : Nat} {e b : Bool} (h : look s.tmps t = some (.c (.lit (.bool e)))) (hb : e = b) (r : R K n a w s) : R K n a w (s.put (some t) (.c (.lit (.bool b)))) := by
  subst hb
  obtain ⟨g, r⟩ := r
  refine ⟨g, r.sim (fun k => ?_) rfl⟩
  rw [look_put]
  split
  · rename_i hk; subst hk; exact h.symm
  · rfl
def Cfg.putB (C : Cfg) (t : Nat) (b : Bool) : Cfg := C.withS (C.st.put (some t) (.c (.lit (.bool b))))
theorem TS_know {P : Program} {K : Ctx} {n : Nat} {Q : Exit → St → Prop} {C : Cfg} (t : Nat) {e b : Bool} (hb : e = b) (h : look C.st.tmps t = some (.c (.lit (.bool e)))) (he : C.pre = true) (k : TS P K n (C.putB t b) Q) : TS P K n C Q :=
  TS_state _ (fun _ _ r => R_know h hb r) he k

/-- slots with casts; resources: old name, new name, casts -/
structure Fit where
  ts : List (Nat × List Nat)
  ds : List (Nat × (Nat × List Nat))
def Fit.to (f : Fit) (d : Nat) : Nat := match look f.ds d with
  | some q => q.1
  | none => d
def pickT (l : List (Nat × SV)) (ρ : Nat → Nat) : List (Nat × List Nat) → Option (List (Nat × SV))
  | [] => some []
  | (t, ks) :: ts => match look l t, pickT l ρ ts with
    | some v, some r => some ((t, (castV ks v).map (SC.ren ρ)) :: r)
    | _, _ => none
def pickR (h : Hp) (ρ : Nat → Nat) : List (Nat × (Nat × List Nat)) → Option Hp
  | [] => some []
  | (d, (d', ks)) :: ds => match look h d, pickR h ρ ds with
    | some x, some r => some ((d', (castR ks x).map (SC.ren ρ)) :: r)
    | _, _ => none
/-- names that are kept, or that nobody takes -/
def Fit.knows (f : Fit) (d : Nat) : Bool := (look f.ds d).isSome || f.ds.all fun q => q.2.1 != d
def Fit.ok (f : Fit) (T : List (Nat × SV)) (h : Hp) : Bool :=
  (f.ds.all fun q => decide (look f.ds q.1 = some q.2) && (decide (q.2.1 < 1000000) || q.1 == q.2.1 || (match look h q.1 with | some r => !r.isBox | none => false)) && f.ds.all fun q' => q.1 == q'.1 || q.2.1 != q'.2.1) &&
  (f.ts.all fun q => match look T q.1 with | some v => v.every (SC.say f.knows) | none => true) && (f.ds.all fun q => match look h q.1 with | some x => x.every (SC.say f.knows) | none => true)
def fitS (f : Fit) (s : St) : Option St := if f.ok s.tmps s.hp then
    match pickT s.tmps f.to f.ts, pickR s.hp f.to f.ds with
    | some T, some h => some ⟨T, h⟩
    | _, _ => none
  else none
theorem pickT_look {l : List (Nat × SV)} {ρ : Nat → Nat} : ∀ (ts : List (Nat × List Nat)) {T : List (Nat × SV)}, pickT l ρ ts = some T → ∀ t v, look T t = some v → ∃ ks v0, (t, ks) ∈ ts ∧ look l t = some v0 ∧ v = (castV ks v0).map (SC.ren ρ)
  | [], T, e, t, v, hx => by cases e; simp [look] at hx
  | (t0, ks) :: ts, T, e, t, v, hx => by
    simp only [pickT] at e
    split at e
    · rename_i v0 r q1 q2
      cases e
      rw [look_cons] at hx
      split at hx
      · rename_i hd; subst hd; cases hx; exact ⟨ks, v0, by simp, q1, rfl⟩
      · obtain ⟨ks', v', q3, q4⟩ := pickT_look ts q2 t v hx
        exact ⟨ks', v', by simp [q3], q4⟩
    · cases e
theorem pickR_look {l : Hp} {ρ : Nat → Nat} : ∀ (ds : List (Nat × (Nat × List Nat))) {h : Hp}, pickR l ρ ds = some h → ∀ d' x, look h d' = some x → ∃ d ks x0, (d, (d', ks)) ∈ ds ∧ look l d = some x0 ∧ x = (castR ks x0).map (SC.ren ρ)
  | [], T, e, t, v, hx => by cases e; simp [look] at hx
  | (d0, (d1, ks)) :: ts, T, e, t, v, hx => by
    simp only [pickR] at e
    split at e
    · rename_i v0 r q1 q2
      cases e
      rw [look_cons] at hx
      split at hx
      · rename_i hd; subst hd; cases hx; exact ⟨d0, ks, v0, by simp, q1, rfl⟩
      · obtain ⟨d, ks', v', q3, q4⟩ := pickR_look ts q2 t v hx
        exact ⟨d, ks', v', by simp [q3], q4⟩
    · cases e
theorem cast1_say (p : Nat → Bool) (k : Nat) (x : SC) (h : x.say p = true) : (cast1 k x).say p = true := by
  unfold cast1
  split
  · exact h
  · split <;> first | rfl | exact h
theorem castL_say (p : Nat → Bool) (ks : List Nat) (cs : List SC) (h : cs.all (SC.say p) = true) : (castL ks cs).all (SC.say p) = true := by
  refine List.all_eq_true.2 (fun y hy => ?_)
  obtain ⟨j, hj⟩ := List.getElem?_of_mem hy
  obtain ⟨k, x, hx, rfl⟩ := castL_get ks cs j y hj
  exact cast1_say p k x (List.all_eq_true.1 h x (List.mem_of_getElem? hx))
theorem castV_say (p : Nat → Bool) (ks : List Nat) (v : SV) (h : v.every (SC.say p) = true) : (castV ks v).every (SC.say p) = true := by
  cases v with
  | c x => cases ks with
    | nil => exact h
    | cons k ks => exact cast1_say p k x h
  | agg cs => exact castL_say p ks cs h
  | tup xs =>
    refine List.all_eq_true.2 (fun y hy => ?_)
    obtain ⟨j, hj⟩ := List.getElem?_of_mem hy
    obtain ⟨ks', x, hx, rfl⟩ := castTs_get ks xs j y hj
    exact castL_say p ks' x.2 (List.all_eq_true.1 h x (List.mem_of_getElem? hx))
theorem castR_say (p : Nat → Bool) (ks : List Nat) (r : Res) (h : r.every (SC.say p) = true) : (castR ks r).every (SC.say p) = true := by
  cases r with
  | box cs => exact castL_say p ks cs h
  | row e s n xs => rfl
  | spare e s n => rfl
  | mp L => rfl

theorem R.fit {K : Ctx} {n : Nat} {a : Act} {w : World} {s s' : St} (f : Fit) (hf : fitS f s = some s') (h : R K n a w s) : R K n a w s' := by
  obtain ⟨g, h⟩ := h
  unfold fitS at hf
  split at hf
  · rename_i hok
    split at hf
    · rename_i T hp hT hR
      cases hf
      simp only [Fit.ok, Bool.and_eq_true, List.all_eq_true] at hok
      obtain ⟨⟨hok1, hok2⟩, hok3⟩ := hok
      have hds : ∀ q, q ∈ f.ds → look f.ds q.1 = some q.2 ∧ (q.2.1 < 1000000 ∨ q.1 = q.2.1 ∨ ∀ cs, look s.hp q.1 ≠ some (.box cs)) ∧ ∀ q', q' ∈ f.ds → q.1 = q'.1 ∨ q.2.1 ≠ q'.2.1 := by
        intro q hq
        have := hok1 q hq
        refine ⟨of_decide_eq_true this.1.1, ?_, fun q' hq' => ?_⟩
        · have h2 := this.1.2
          simp only [Bool.or_eq_true, decide_eq_true_eq, beq_iff_eq] at h2
          rcases h2 with (h2 | h2) | h2
          · exact .inl h2
          · exact .inr (.inl h2)
          · refine .inr (.inr fun cs hcs => ?_)
            rw [hcs] at h2
            cases h2
        · have h2 := this.2 q' hq'
          simp only [Bool.or_eq_true, beq_iff_eq, bne_iff_ne] at h2
          exact h2
      -- the old name of a new one
      let back : Nat → Nat := fun d' => match f.ds.find? (fun q => q.2.1 == d') with
        | some q => q.1
        | none => d'
      let g' : Env := ⟨fun d' => g.pos (back d'), fun d' => g.tk (back d')⟩
      have hback : ∀ d q, look f.ds d = some q → back q.1 = d := by
        intro d q hq
        have hm := look_mem hq
        simp only [back]
        split
        · rename_i q' hq'
          have h1 := List.find?_some hq'
          simp only [beq_iff_eq] at h1
          have h2 := List.mem_of_find?_eq_some hq'
          rcases (hds q' h2).2.2 (d, q) hm with h3 | h3
          · exact h3
          · exact absurd h1 h3
        · rename_i hn
          exact absurd (List.find?_eq_none.1 hn _ hm) (by simp)
      let p : Nat → Bool := f.knows
      have hto : ∀ d, p d = true → g'.pos (f.to d) = g.pos d ∧ g'.tk (f.to d) = g.tk d := by
        intro d hd
        cases hq : look f.ds d with
        | some q => simp only [g', Fit.to, hq, hback d q hq, and_self]
        | none =>
          have hbd : back d = d := by
            simp only [p, Fit.knows, hq, Option.isSome_none, Bool.false_or, List.all_eq_true] at hd
            simp only [back]
            split
            · rename_i q' hq'
              have h1 := List.find?_some hq'
              simp only [beq_iff_eq] at h1
              have := hd q' (List.mem_of_find?_eq_some hq')
              simp [h1] at this
            · rfl
          simp only [g', Fit.to, hq, hbd, and_self]
      have hlk : ∀ d' x, look hp d' = some x → ∃ d ks x0, look f.ds d = some (d', ks) ∧ look s.hp d = some x0 ∧ x = (castR ks x0).map (SC.ren f.to) ∧ f.to d = d' ∧ p d = true := by
        intro d' x hx
        obtain ⟨d, ks, x0, q1, q2, q3⟩ := pickR_look f.ds hR d' x hx
        have q4 := (hds _ q1).1
        exact ⟨d, ks, x0, q4, q2, q3, by simp [Fit.to, q4], by simp [p, Fit.knows, q4]⟩
      have hfoot : ∀ d d' x0 (m : SC → SC) ks, f.to d = d' → p d = true → Foot g' d' ((castR ks x0).map m) = Foot g d x0 := by
        intro d d' x0 m ks h1 h2
        rw [foot_map, castR_foot, ← h1]
        have := hto d h2
        funext b o
        cases x0 <;> simp only [Foot, this.1, this.2]
      have hin : ∀ b o, InFoot g' hp b o → InFoot g s.hp b o := by
        rintro b o ⟨d', x, q1, q2⟩
        obtain ⟨d, ks, x0, q3, q4, rfl, q5, q6⟩ := hlk d' x q1
        rw [hfoot d d' x0 _ ks q5 q6] at q2
        exact ⟨d, x0, q4, q2⟩
      have hle : (rdOf K g s.hp w).le (rdOf K g' hp w) := by
        intro b o v hv
        unfold rdOf at *
        split at hv
        · cases hv
        · rename_i hx
          rw [if_neg (fun k => hx (hin b o k))]
          exact hv
      have hsay : ∀ d x0, look f.ds d ≠ none → look s.hp d = some x0 → x0.every (SC.say p) = true := by
        intro d x0 hd hx
        obtain ⟨q, hq⟩ := Option.ne_none_iff_exists'.1 hd
        have := hok3 _ (look_mem hq)
        simp only [hx] at this
        exact this
      refine ⟨g', h.defers, h.size, h.few, ⟨h.hg.keep, fun d' x hx => ?_, fun b o hx hb => h.hg.may b o (hin b o hx) hb, ?_, ?_, ?_⟩, fun t v hv => ?_⟩
      · obtain ⟨d, ks, x0, q3, q4, rfl, q5, q6⟩ := hlk d' x hx
        have := (castR_holds ks (h.hg.holds d x0 q4)).ren hle f.to p hto q6 (castR_say p ks x0 (hsay d x0 (by rw [q3]; simp) q4))
        rw [q5] at this
        exact this
      · intro d' d'' x x' b o hne hx hx' hfo hfo'
        obtain ⟨d, ks, x0, q3, q4, rfl, q5, q6⟩ := hlk d' x hx
        obtain ⟨e, ks', x1, r3, r4, rfl, r5, r6⟩ := hlk d'' x' hx'
        rw [hfoot d d' x0 _ ks q5 q6] at hfo
        rw [hfoot e d'' x1 _ ks' r5 r6] at hfo'
        exact h.hg.dis d e x0 x1 b o (fun hde => hne (by rw [← q5, ← r5, hde])) q4 r4 hfo hfo'
      · intro d' cs h6 hx
        obtain ⟨d, ks, x0, q3, q4, q7, q5, q6⟩ := hlk d' _ hx
        have hbx : ∃ cs0, x0 = .box cs0 := by
          cases x0 with
          | box cs0 => exact ⟨cs0, rfl⟩
          | row e s n xs => cases q7
          | spare e s n => cases q7
          | mp L => cases q7
        have hdd : d = d' := by
          rcases (hds _ (look_mem q3)).2.1 with h7 | h7 | h7
          · simp only at h7; omega
          · exact h7
          · obtain ⟨cs0, rfl⟩ := hbx
            exact absurd q4 (h7 cs0)
        have h8 := (hto d q6).1
        rw [q5] at h8
        rw [h8]
        subst hdd
        cases x0 with
        | box cs0 => exact h.hg.fix d cs0 h6 q4
        | row e s n xs => cases q7
        | spare e s n => cases q7
        | mp L => cases q7
      · intro d' x hx hb b o hfo
        obtain ⟨d, ks, x0, q3, q4, rfl, q5, q6⟩ := hlk d' x hx
        rw [hfoot d d' x0 _ ks q5 q6] at hfo
        exact h.hg.new d x0 q4 (by cases x0 <;> simp_all [castR, Res.isBox, Res.map]) b o hfo
      · obtain ⟨ks, v0, q1, q2, rfl⟩ := pickT_look f.ts hT t v hv
        obtain ⟨u, q3, q4⟩ := h.tmps t v0 q2
        have q5 := hok2 _ q1
        simp only [q2] at q5
        exact ⟨u, q3, (castV_rel ks q4).imp (fun v x hx k => k.ren hle f.to p hto hx) (castV_say p ks v0 q5)⟩
    · cases hf
  · cases hf

section
variable {P : Program} {K : Ctx} {n : Nat} {Q : Exit → St → Prop} {C : Cfg}
theorem TS_fit (f : Fit) (s' : St) (h : fitS f C.st = some s') (he : C.pre = true) (k : TS P K n (C.withS s') Q) : TS P K n C Q := TS_state s' (fun _ _ r => r.fit f h) he k
def Cfg.fit (C : Cfg) (f : Fit) : Cfg := match fitS f C.st with
  | some s' => C.withS s'
  | none => .bad
theorem TS_fitU (f : Fit) (he : C.pre = true) (k : TS P K n (C.fit f) Q) : TS P K n C Q := by
  unfold Cfg.fit at k
  split at k
  · rename_i s' h; exact TS_fit f s' h he k
  · exact k.elim

def St.overs (s : St) (ts : List (Nat × SV)) (ds : List (Nat × Res)) : St := { tmps := ts.foldl (fun l p => setL p.1 p.2 l) s.tmps, hp := ds.foldl (fun l p => setL p.1 p.2 l) s.hp }

def Cfg.fs : Cfg → List Fr
  | .mk fs _ _ => fs
  | .bad => []
def Cfg.rest : Cfg → List Fr
  | .mk (_ :: fs) _ _ => fs
  | _ => []
def joinQ (P : Program) (K : Ctx) (n : Nat) (fs : List Fr) (Q : Exit → St → Prop) {X ρ : Type} (S : X → St) (j : X → Option ρ) (r : ρ) : Exit → St → Prop
  | .normal, s => ∃ v, j v = some r ∧ ∀ a w, R K n a w s → R K n a w (S v)
  | e, s => QS P K n fs Q e s
def Cfg.seq1 : Cfg → Cfg
  | .mk (.code (.seq x _) :: _) .normal s => .mk [.code x] .normal s
  | _ => .bad
def Cfg.seq2 (C : Cfg) (s : St) : Cfg := match C with
  | .mk (.code (.seq _ y) :: fs) .normal _ => .mk (.code y :: fs) .normal s
  | _ => .bad
theorem T_joinR {x y : Code} {s : St} {X : Type} {ρ : Type} (S : X → St) (j : X → Option ρ) (r : ρ) {fs : List Fr} (hj : ∀ v, j v = some r → T P K n y (S v) (QS P K n fs Q)) (hx : T P K n x s (joinQ P K n fs Q S j r)) : T P K n (.seq x y) s (QS P K n fs Q) := fun a w rr =>
  wp_seq (wp_mono (hx a w rr) fun e a' w' ⟨s', r', q⟩ => by
    cases e <;> simp only [joinQ] at q <;> simp only [Exit.then]
    case normal =>
      obtain ⟨v, h1, h2⟩ := q
      exact hj v h1 a' w' (h2 a' w' r')
    all_goals exact ⟨s', r', q⟩)
theorem TS_join {X ρ : Type} (S : X → St) (j : X → Option ρ) (r : ρ) (hj : ∀ v, j v = some r → TS P K n (C.seq2 (S v)) Q) (hx : TS P K n C.seq1 (joinQ P K n C.rest Q S j r)) : TS P K n C Q := by
  unfold Cfg.seq1 at hx
  split at hx
  · exact T_joinR S j r hj hx
  · exact hx.elim
/-- the end of a way -/
def Cfg.ended : Cfg → Bool
  | .mk [] .normal _ => true
  | _ => false
def Cfg.out (C : Cfg) (fs : List Fr) : Cfg := match C with
  | .mk [] e s => .mk fs e s
  | _ => .bad
def Cfg.abn : Cfg → Bool
  | .mk [] .ret _ => true
  | .mk [] (.exit _) _ => true
  | _ => false
theorem TS_meet {X ρ : Type} {S : X → St} {j : X → Option ρ} {r : ρ} {fs : List Fr} (v : X) (f : Fit) (hj : j v = some r) (he : C.ended = true) (hf : fitS f C.st = some (S v)) : TS P K n C (joinQ P K n fs Q S j r) := by
  unfold Cfg.ended at he
  split at he
  · exact ⟨v, hj, fun a w rr => rr.fit f hf⟩
  · cases he
theorem TS_outJ {X ρ : Type} {S : X → St} {j : X → Option ρ} {r : ρ} {fs : List Fr} (he : C.abn = true) (k : TS P K n (C.out fs) Q) : TS P K n C (joinQ P K n fs Q S j r) := by
  unfold Cfg.abn at he
  split at he
  · exact k
  · exact k
  · cases he
end

section
variable {σ ρ : Type}
def iterO (step : σ → Option (σ ⊕ ρ)) : Nat → σ → Option ρ
  | 0, _ => none
  | n + 1, s => match step s with
    | some (.inl s') => iterO step n s'
    | some (.inr r) => some r
    | none => none
theorem iterO_mono {step : σ → Option (σ ⊕ ρ)} : ∀ {n m : Nat} {s : σ} {r : ρ}, iterO step n s = some r → n ≤ m → iterO step m s = some r
  | 0, _, _, _, h, _ => by cases h
  | n + 1, 0, _, _, _, hm => by omega
  | n + 1, m + 1, s, r, h, hm => by
    simp only [iterO] at h ⊢
    split at h
    · exact iterO_mono h (by omega)
    · exact h
    · cases h
open Classical in
/-- a loop's end, reckoned where 4096 rounds are enough -/
noncomputable def loopO (step : σ → Option (σ ⊕ ρ)) (s : σ) : Option ρ := match iterO step 4096 s with
  | some r => some r
  | none => if h : ∃ r n, iterO step n s = some r then some (Classical.choose h) else none
theorem iterO_one {step : σ → Option (σ ⊕ ρ)} {s : σ} {r r' : ρ} {n m : Nat} (h : iterO step n s = some r) (h' : iterO step m s = some r') : r = r' := by
  have h1 := iterO_mono h (Nat.le_max_left n m)
  have h2 := iterO_mono h' (Nat.le_max_right n m)
  rw [h1] at h2
  exact Option.some.inj h2
theorem loopO_of {step : σ → Option (σ ⊕ ρ)} {s : σ} {r : ρ} {n : Nat} (h : iterO step n s = some r) : loopO step s = some r := by
  have hx : ∃ r n, iterO step n s = some r := ⟨r, n, h⟩
  unfold loopO
  cases h0 : iterO step 4096 s with
  | some r' => rw [iterO_one h0 h]
  | none =>
    simp only
    rw [dif_pos hx]
    obtain ⟨m, hm⟩ := Classical.choose_spec hx
    rw [iterO_one hm h]
theorem loopO_some {step : σ → Option (σ ⊕ ρ)} {s : σ} {r : ρ} (h : loopO step s = some r) : ∃ n, iterO step n s = some r := by
  unfold loopO at h
  cases h0 : iterO step 4096 s with
  | some r' =>
    rw [h0] at h
    cases h
    exact ⟨4096, h0⟩
  | none =>
    rw [h0] at h
    simp only at h
    split at h
    · rename_i hx
      cases h
      exact Classical.choose_spec hx
    · cases h
theorem loopO_eq (step : σ → Option (σ ⊕ ρ)) (s : σ) : loopO step s = match step s with
    | some (.inl s') => loopO step s'
    | some (.inr r) => some r
    | none => none := by
  cases hs : step s with
  | none =>
    cases hl : loopO step s with
    | none => rfl
    | some r =>
      obtain ⟨n, hn⟩ := loopO_some hl
      cases n with
      | zero => cases hn
      | succ n => simp [iterO, hs] at hn
  | some x =>
    cases x with
    | inr r => exact loopO_of (n := 1) (by simp [iterO, hs])
    | inl s' =>
      simp only
      cases hl : loopO step s' with
      | some r =>
        obtain ⟨n, hn⟩ := loopO_some hl
        exact loopO_of (n := n + 1) (by simp [iterO, hs, hn])
      | none =>
        cases hl2 : loopO step s with
        | none => rfl
        | some r =>
          obtain ⟨n, hn⟩ := loopO_some hl2
          cases n with
          | zero => cases hn
          | succ n =>
            simp only [iterO, hs] at hn
            rw [loopO_of hn] at hl
            cases hl

variable {P : Program} {K : Ctx} {n : Nat} {Q : Exit → St → Prop} {C : Cfg}
def Cfg.body (C : Cfg) (s : St) : Cfg := match C with
  | .mk (.code (.loop c) :: _) .normal _ => .mk [.code c] .normal s
  | _ => .bad
def Cfg.isLoop : Cfg → Bool
  | .mk (.code (.loop _) :: _) .normal _ => true
  | _ => false
end

def Cfg.fin : Cfg → Bool
  | .mk [] .normal _ => true
  | .mk [] .ret _ => true
  | _ => false
theorem TS_ret {P : Program} {K : Ctx} {n : Nat} {C : Cfg} {fn : Func} {kss : List (List Nat)} {spec : List (Nat × List Nat)} {r : SV} {h' : Hp} (he : C.fin = true) (h : (resL P C.st kss fn.results.toList).bind resV = some r) (hh : pickH C.st.hp spec = some h') : TS P K n C (retC P fn kss spec r h') := by
  obtain ⟨xs, h1, h2⟩ := Option.bind_eq_some_iff.1 h
  unfold Cfg.fin at he
  split at he
  · exact ⟨⟨xs, h1, h2⟩, hh⟩
  · exact ⟨⟨xs, h1, h2⟩, hh⟩
  · cases he

section
variable {P : Program} {K : Ctx} {n : Nat} {Q : Exit → St → Prop} {C : Cfg}
/-- the operation that stands next -/
def Cfg.op : Cfg → Option (Array Oper × Oper)
  | .mk (.ops os (o :: _) :: _) .normal _ => some (os, o)
  | _ => none
def Cfg.next (C : Cfg) (s' : St) : Cfg := match C with
  | .mk (.ops os (_ :: l) :: fs) .normal _ => .mk (.ops os l :: fs) .normal s'
  | _ => .bad
theorem TS_stp {os : Array Oper} {o : Oper} {s' : St} (ho : C.op = some (os, o)) (h : Stp P K n os o C.st s') (k : TS P K n (C.next s') Q) : TS P K n C Q := by
  unfold Cfg.op at ho
  split at ho
  · cases ho; exact TL_stp h k
  · cases ho
/-- the operation is wanted, and its place is there -/
def Cfg.go1 (n : Nat) (C : Cfg) : Bool := match C.op with
  | some (os, o) => (match guardOf os o C.st with | some true => true | _ => false) && dstOk n o
  | none => false
def Cfg.dst (C : Cfg) : Option Tmp := match C.op with
  | some (_, o) => o.dst
  | none => none
def Cfg.ret (C : Cfg) (v : SV) : Cfg := C.next (C.st.put C.dst v)
theorem go1_spec (h : C.go1 n = true) : ∃ os o, C.op = some (os, o) ∧ guardOf os o C.st = some true ∧ dstOk n o = true ∧ C.dst = o.dst := by
  unfold Cfg.go1 at h
  split at h
  · rename_i os o ho
    simp only [Bool.and_eq_true] at h
    refine ⟨os, o, ho, ?_, h.2, by simp [Cfg.dst, ho]⟩
    have h1 := h.1
    split at h1
    · assumption
    · cases h1
  · cases h
/-- an operation that makes a value, and maybe memory -/
theorem TS_val (v : SV) (hg : C.go1 n = true) (hp : ∀ os o, C.op = some (os, o) → GrowOp P o C.st v) (k : TS P K n (C.ret v) Q) : TS P K n C Q := by
  obtain ⟨os, o, ho, h1, h2, h3⟩ := go1_spec hg
  refine TS_stp ho (S_grow v h1 h2 (hp os o ho)) ?_
  rw [← h3]
  exact k
def Cfg.callee (C : Cfg) (kss : List (List Nat)) : Option (FuncId × List SV) := match C.op with
  | some (_, o) => match calleeOf C.st o with
    | some (f, vs) => some (f, castArgs kss vs)
    | none => none
  | none => none
theorem callee_op {kss : List (List Nat)} {f : FuncId} {A : List SV} (h : C.callee kss = some (f, A)) {os : Array Oper} {o : Oper} (ho : C.op = some (os, o)) : ∃ vs, calleeOf C.st o = some (f, vs) ∧ castArgs kss vs = A := by
  unfold Cfg.callee at h
  rw [ho] at h
  simp only at h
  split at h
  · rename_i f' vs hv; cases h; exact ⟨vs, hv, rfl⟩
  · cases h
theorem TS_call {f : FuncId} {A : List SV} {r : SV} (kss : List (List Nat)) (hp : Con P f A [] r []) (hc : C.callee kss = some (f, A)) (hg : (C.go1 n && hasBody P f && r.every SC.closed) = true) (k : TS P K n (C.ret r) Q) : TS P K n C Q := by
  simp only [Bool.and_eq_true] at hg
  refine TS_val r hg.1.1 (fun os o ho => ?_) k
  obtain ⟨vs, h1, h2⟩ := callee_op hc ho
  exact grow_con kss h1 hg.1.2 h2 hg.2 hp
/-- a call with a variable behind a pointer -/
def pdOk (s : St) (h h' : Hp) (news : List (Nat × Nat)) : Option (Nat × Nat) → Bool
  | some (d, off) => match look s.hp d, h, look h' 1000000 with
    | some (.box csD), [(1000000, .box cs)], some (.box cs') => cs.all SC.closed && cs'.all SC.closed && decide (cs'.length = cs.length) && decide (off + cs.length ≤ csD.length) && (look news d).isNone
    | _, _, _ => false
  | none => h.isEmpty
def windowOf (s : St) (h : Hp) : Option (Nat × Nat) → List SC × List SC
  | some (d, off) => match look s.hp d, h with
    | some (.box csD), [(_, .box cs)] => ((csD.drop off).take cs.length, cs)
    | _, _ => ([], [])
  | none => ([], [])
theorem pdOk_spec {s : St} {h h' : Hp} {news : List (Nat × Nat)} {pd : Option (Nat × Nat)} (hk : pdOk s h h' news pd = true) (hw : (windowOf s h pd).1 = (windowOf s h pd).2) : PdOk s h h' news pd := by
  cases pd with
  | none => simpa [pdOk, PdOk] using hk
  | some p =>
    obtain ⟨d, off⟩ := p
    simp only [pdOk] at hk
    split at hk
    · rename_i csD cs cs' h1 h2
      simp only [Bool.and_eq_true, decide_eq_true_eq, Option.isNone_iff_eq_none] at hk
      refine ⟨csD, cs, cs', h1, rfl, h2, hk.1.1.1.1, hk.1.1.1.2, ?_, hk.1.1.2, hk.1.2, hk.2⟩
      simpa [windowOf, h1] using hw
    · cases hk
theorem TS_con {f : FuncId} {A : List SV} {r : SV} {h h' : Hp} (kss : List (List Nat)) (news : List (Nat × Nat)) (pd : Option (Nat × Nat)) (hp : Con P f A h r h') (hc : C.callee kss = some (f, argsFor pd A)) (hg : (C.go1 n && hasBody P f && A.all (okFor pd) && pdOk C.st h h' news pd && newsOk C.st h' r news C.dst) = true) (hw : (windowOf C.st h pd).1 = (windowOf C.st h pd).2)
    (k : TS P K n (C.next (C.st.after h' r news pd C.dst)) Q) : TS P K n C Q := by
  simp only [Bool.and_eq_true] at hg
  obtain ⟨⟨⟨⟨hg1, hg2⟩, hg3⟩, hg4⟩, hg5⟩ := hg
  obtain ⟨os, o, ho, h1, h2, h3⟩ := go1_spec hg1
  obtain ⟨vs, h4, h5⟩ := callee_op hc ho
  rw [h3] at k hg5
  exact TS_stp ho (S_con kss news pd h1 h2 h4 hg2 h5 hg3 (pdOk_spec hg4 hw) hg5 hp) k
end
end
section
open Go.RowKit

def arrS (k : IntKind) (n : Nat) (l : List Int) : List SC := (List.range n).map fun i => .lit (.int k (l.getD i 0))
def ecI (k : IntKind) (n : Int) : List SC := [.lit (.int k n)]
def ecB (b : Bool) : List SC := [.lit (.bool b)]
def ecS {α : Type} (s : Nat) (f : α → List SC) (l : List α) : List SC := [.slc s 0 l.length (l.map f)]
def idx {α : Type} (l : List α) (i : Int) : Option α := if 0 ≤ i then l[i.toNat]? else none
theorem idx_spec {α : Type} {l : List α} {i : Int} {d : α} (h : idx l i = some d) : 0 ≤ i ∧ l[i.toNat]? = some d := by
  unfold idx at h
  split at h
  · exact ⟨‹_›, h⟩
  · cases h
theorem map_get {α β : Type} {f : α → β} {l : List α} {n : Nat} {d : α} (h : l[n]? = some d) : (l.map f)[n]? = some (f d) := by
  rw [List.getElem?_map, h]; rfl
theorem bindO {α β : Type} {x : Option α} {f : α → Option β} {r : β} (h : x.bind f = some r) : ∃ v, x = some v ∧ f v = some r := Option.bind_eq_some_iff.1 h
theorem condO {α : Type} {b : Bool} {x y : Option α} {r : α} (h : (bif b then x else y) = some r) : (b = true ∧ x = some r) ∨ (b = false ∧ y = some r) := by
  cases b
  · exact .inr ⟨rfl, h⟩
  · exact .inl ⟨rfl, h⟩
theorem chkO {α : Type} {b : Bool} {x : Option α} {r : α} (h : (bif b then x else none) = some r) : b = true ∧ x = some r := by
  cases b
  · cases h
  · exact ⟨rfl, h⟩
theorem notT {e : Bool} (h : e = false) : (!e) = true := by rw [h]; rfl
theorem notF {e : Bool} (h : e = true) : (!e) = false := by rw [h]; rfl
def arrEq (n : Nat) (a b : List Int) : Bool := (List.range n).foldr (fun i r => (a.getD i 0 == b.getD i 0) && r) true
def eS {α : Type} (s : Nat) (f : α → List SC) (l : List α) : SC := .slc s 0 l.length (l.map f)
theorem irel_n {rd : Rd} {u : Value} {s N : Nat} {xs : List (List SC)} (h : IRel rd u (.slc s 0 N xs)) : N = xs.length := by
  cases h with
  | nil => rfl
  | slc b o n c s' xs' f hn => exact hn.symm
theorem irel_len {rd : Rd} {u : Value} {s N : Nat} {xs : List (List SC)} (h : IRel rd u (.slc s 0 N xs)) : IRel rd u (.slc s 0 xs.length xs) := by
  rw [← irel_n h]; exact h
theorem run_bound {P : Program} {w : World} (k : IntKind) (n : Int) (y : Nat) (c : BoundsCode) (h0 : 0 ≤ n) (h1 : n ≤ y) : (Instr.sliceBound (.int k n) y c).run P w = .ok n.toNat w := by
  simp [Instr.sliceBound, asIntOf, h0, h1]
theorem grow_slice {α : Type} {P : Program} {o : Oper} {s : St} {t e : TypeId} {x : Operand} {lo hi : Option Operand} {f : α → List SC} (sz tag N : Nat) (l : List α) (vlo vhi : Option (IntKind × Int)) (a b : Int) (ho : o.op = .slice t x lo hi none) (hx : opd s x = some (.c (.slc sz tag N (l.map f))))
    (hlo : lo.map (opd s) = vlo.map fun p => some (int p.1 p.2)) (hhi : hi.map (opd s) = vhi.map fun p => some (int p.1 p.2)) (ha : a = (vlo.map (·.2)).getD 0) (hb : b = (vhi.map (·.2)).getD (N : Int))
    (hu : P.underlying t = some (.slice e)) (hsz : (P.info? e).map (·.size) = some sz) (h0 : 0 ≤ a) (h1 : a ≤ b) (h2 : b ≤ l.length) : GrowOp P o s (.c (.slc sz 0 ((l.take b.toNat).drop a.toNat).length (((l.take b.toNat).drop a.toNat).map f))) := by
  refine PureOp.grow fun g rd A w hview => ?_
  have hv := hview.op x _ (by simp [ho, Op.operands]) hx
  simp only [VRel, CRel, CRel0] at hv
  have hN : N = l.length := (irel_n hv.1).trans (by simp)
  subst hN
  obtain ⟨i, hi', hsize⟩ := Option.map_eq_some_iff.1 hsz
  have key : ∀ (len cap : Nat), len = l.length → len ≤ cap → (Instr.sliceBounds true len cap (lo.map A.eval) (hi.map A.eval) (none : Option Value)).run P w = .ok (a.toNat, b.toNat, cap) w := by
    intro len cap hlen hcap
    have hb' : (match hi.map A.eval with | some v => Instr.sliceBound v cap .sliceAcap | none => pure len : Sem Nat).run P w = .ok b.toNat w := by
      cases hi with
      | none =>
        cases vhi with
        | none => simp at hb; subst hb; simp [hlen]
        | some p => simp at hhi
      | some y =>
        cases vhi with
        | none => simp at hhi
        | some p =>
          simp only [Option.map_some, Option.some.injEq, Option.getD_some] at hhi hb
          have := rel_lit (hview.op y _ (by simp [ho, Op.operands]) hhi)
          simp only [Option.map_some, this]
          rw [← hb]
          exact run_bound _ _ _ _ (by omega) (by omega)
    have ha' : (match lo.map A.eval with | some v => Instr.sliceBound v b.toNat .sliceB | none => pure 0 : Sem Nat).run P w = .ok a.toNat w := by
      cases lo with
      | none =>
        cases vlo with
        | none => simp at ha; subst ha; simp
        | some p => simp at hlo
      | some y =>
        cases vlo with
        | none => simp at hlo
        | some p =>
          simp only [Option.map_some, Option.some.injEq, Option.getD_some] at hlo ha
          have := rel_lit (hview.op y _ (by simp [ho, Op.operands]) hlo)
          simp only [Option.map_some, this]
          rw [← ha]
          exact run_bound _ _ _ _ (by omega) (by omega)
    unfold Instr.sliceBounds
    cases hi with
    | none =>
      cases lo with
      | none => simp at ha' hb' ⊢; exact ⟨ha', hb'⟩
      | some y => simp only [Option.map_none, Option.map_some, Sem.run_bind, Sem.run_pure, Result.andThen_ok, Option.isSome_none, Bool.false_eq_true, if_false] at ha' hb' ⊢; cases hb'; rw [ha']; simp
    | some z =>
      cases lo with
      | none => simp only [Option.map_none, Option.map_some, Sem.run_bind, Sem.run_pure, Result.andThen_ok, if_true] at ha' hb' ⊢; rw [hb']; simp at ha' ⊢; exact ha'
      | some y => simp only [Option.map_some, Sem.run_bind, Sem.run_pure, Result.andThen_ok, Option.isSome_none, Bool.false_eq_true, if_false, if_true] at ha' hb' ⊢; rw [hb']; simp only [Result.andThen_ok]; rw [ha']; simp
  generalize hev : A.eval x = v at *
  obtain ⟨hv, _⟩ := hv
  generalize hxs : l.map f = xs at hv
  generalize hLL : l.length = LL at hv
  cases hv with
  | nil _ a0 c0 hm =>
    have hl0 : l = [] := by simpa using hxs
    subst hl0
    have hb0 : b.toNat = 0 := by simp at h2; omega
    have ha0 : a.toNat = 0 := by simp at h2; omega
    have hk := key 0 c0 rfl (Nat.zero_le _)
    refine ⟨_, by simp only [execOp, ho, Option.map_none, Instr.sliceAt, Instr.slice, run_underlying hu, hev, hk, sizeOf, typeInfo, program, hi', Sem.run_bind, Sem.run_pure, Sem.run, Result.andThen_ok]; rfl, ?_⟩
    rw [ha0, hb0]
    simp only [VRel, CRel, CRel0, List.take_nil, List.drop_nil, List.map_nil]
    exact ⟨.nil _ _ _ (by omega), trivial⟩
  | slc bb oo n c s' xs' u hn hc hm hs hr hu' =>
    have hk := key LL c hLL.symm hc
    refine ⟨_, by simp only [execOp, ho, Option.map_none, Instr.sliceAt, Instr.slice, run_underlying hu, hev, hk, sizeOf, typeInfo, program, hi', Sem.run_bind, Sem.run_pure, Sem.run, Result.andThen_ok]; rfl, ?_⟩
    simp only [VRel, CRel, CRel0]
    refine ⟨?_, trivial⟩
    by_cases hcl : c = a.toNat
    · rw [if_pos hcl]
      have hbl : b.toNat = a.toNat := by omega
      have : (l.take b.toNat).drop a.toNat = [] := by rw [hbl]; simp
      rw [this, hbl, Nat.sub_self]
      exact .nil _ _ _ (by omega)
    · rw [if_neg hcl]
      simp only [Option.map_some, addr_add, hsize]
      have hlen : ((l.take b.toNat).drop a.toNat).length = b.toNat - a.toNat := by simp; omega
      have get : ∀ (i : Nat) (z : List SC), (((l.take b.toNat).drop a.toNat).map f)[i]? = some z → xs[a.toNat + i]? = some z := by
        intro i z hz
        rw [← hxs, List.getElem?_map]
        rw [List.getElem?_map, List.getElem?_drop, List.getElem?_take] at hz
        split at hz
        · exact hz
        · cases hz
      rw [hlen]
      refine .slc bb (oo + a.toNat * sz) (b.toNat - a.toNat) (c - a.toNat) sz _ (fun i j => u (a.toNat + i) j) (by rw [List.length_map]; exact hlen) (by omega) (by omega) ?_ ?_ ?_
      · intro z hz
        obtain ⟨i, hi2⟩ := List.getElem?_of_mem hz
        exact hs z (List.mem_of_getElem? (get i z hi2))
      · intro i z j y hz hy
        have := hr _ _ _ _ (get i z hz) hy
        rw [show oo + a.toNat * sz + i * sz + j = oo + (a.toNat + i) * sz + j by rw [Nat.add_mul]; omega]
        exact this
      · intro i z j y hz hy
        exact hu' _ _ _ _ (get i z hz) hy

/-- the cells of a slice's elements, one behind the other, as they lie in memory -/
theorem row_cells {rd : Rd} {w : World} (hrd : ∀ b o v, rd b o = some v → w.cell? ⟨b, o, none⟩ = some v) {b o n c s N : Nat} {xs : List (List SC)} (h : IRel rd (.slice (some ⟨b, o, none⟩) n c) (.slc s 0 N xs)) :
    ∃ news : List Value, news.length = n * s ∧ (∀ j v, news[j]? = some v → w.cell? ((⟨b, o, none⟩ : Addr).add j) = some v) ∧ xs.length = n ∧ (∀ x ∈ xs, x.length = s) ∧
      ∀ i x j y, xs[i]? = some x → x[j]? = some y → ∃ u, news[i * s + j]? = some u ∧ IRel rd u y := by
  cases h with
  | nil =>
    exact ⟨[], by simp, by simp, rfl, by simp, by simp⟩
  | slc _ _ _ _ _ _ u hn hc hm hs hr hu =>
    refine ⟨(List.range (n * s)).map fun j => u (j / s) (j % s), by simp, ?_, hn, hs, ?_⟩
    · intro j v hv
      obtain ⟨k, hk, rfl⟩ := Option.map_eq_some_iff.1 ((List.getElem?_map ..).symm.trans hv)
      obtain ⟨hj, rfl⟩ := List.getElem?_eq_some_iff.1 hk
      simp only [List.length_range] at hj
      simp only [List.getElem_range]
      have hs0 : 0 < s := Nat.pos_of_ne_zero (fun h => by subst h; simp at hj)
      have h1 : j / s < n := Nat.div_lt_of_lt_mul (by rw [Nat.mul_comm]; exact hj)
      have h2 := Nat.mod_lt j hs0
      have hx := List.getElem?_eq_getElem (l := xs) (by omega : j / s < xs.length)
      have hl := hs _ (List.getElem_mem (by omega : j / s < xs.length))
      have := hr _ _ (j % s) _ hx (List.getElem?_eq_getElem (by omega))
      rw [show o + j / s * s + j % s = o + j by have := Nat.div_add_mod j s; rw [Nat.mul_comm] at this; omega] at this
      rw [addr_add]
      exact hrd _ _ _ this
    · intro i x j y hx hy
      have hi := (List.getElem?_eq_some_iff.1 hx).1
      have hl := hs x (List.mem_of_getElem? hx)
      have hj := (List.getElem?_eq_some_iff.1 hy).1
      have hlt : i * s + j < n * s := by
        have : (i + 1) * s ≤ n * s := Nat.mul_le_mul_right _ (by omega)
        rw [Nat.add_mul] at this
        omega
      refine ⟨u i j, ?_, hu _ _ _ _ hx hy⟩
      rw [List.getElem?_map, List.getElem?_eq_getElem (by simpa using hlt)]
      simp only [List.getElem_range, Option.map_some]
      have e1 : (i * s + j) / s = i := by rw [Nat.mul_comm, Nat.mul_add_div (by omega), Nat.div_eq_of_lt (by omega)]; omega
      have e2 : (i * s + j) % s = j := by rw [Nat.mul_comm, Nat.mul_add_mod, Nat.mod_eq_of_lt (by omega)]
      rw [e1, e2]
theorem RowIs.append {rd : Rd} {s : Nat} {us vs : List Value} {xs ys : List (List SC)} (h : RowIs rd s us xs) (k : RowIs rd s vs ys) (hl : us.length = xs.length * s) : RowIs rd s (us ++ vs) (xs ++ ys) := by
  refine ⟨fun x hx => (List.mem_append.1 hx).elim (h.1 x) (k.1 x), fun i x j y hx hy => ?_⟩
  rw [List.getElem?_append] at hx
  split at hx
  · rename_i hi
    obtain ⟨u, h1, h2⟩ := h.2 i x j y hx hy
    refine ⟨u, ?_, h2⟩
    rw [List.getElem?_append_left (List.getElem?_eq_some_iff.1 h1).1]
    exact h1
  · rename_i hi
    obtain ⟨u, h1, h2⟩ := k.2 _ x j y hx hy
    refine ⟨u, ?_, h2⟩
    have e : i * s + j = us.length + ((i - xs.length) * s + j) := by
      rw [hl, Nat.sub_mul]
      have : xs.length * s ≤ i * s := Nat.mul_le_mul_right _ (by omega)
      omega
    rw [e, List.getElem?_append_right (by omega)]
    rw [Nat.add_sub_cancel_left]
    exact h1
theorem row_is {rd : Rd} {s b n c : Nat} {vals : List Value} {xs : List (List SC)} (h : RowIs rd s vals xs) (hn : xs.length = n) (hc : n ≤ c) (hm : c ≤ maxLen) (hr : ∀ k v, vals[k]? = some v → k < n * s → rd b k = some v) : IRel rd (.slice (some ⟨b, 0, none⟩) n c) (.slc s 0 n xs) := by
  refine .slc b 0 n c s xs (fun i j => (vals[i * s + j]?).getD undef) hn hc hm h.1 (fun i x j y hx hy => ?_) (fun i x j y hx hy => ?_)
  · obtain ⟨u, h1, h2⟩ := h.2 i x j y hx hy
    have hi := (List.getElem?_eq_some_iff.1 hx).1
    have hl := h.1 x (List.mem_of_getElem? hx)
    have hj := (List.getElem?_eq_some_iff.1 hy).1
    have hlt : i * s + j < n * s := by
      have : (i + 1) * s ≤ n * s := Nat.mul_le_mul_right _ (by omega)
      rw [Nat.add_mul] at this
      omega
    rw [h1, Nat.zero_add]
    exact hr _ _ h1 hlt
  · obtain ⟨u, h1, h2⟩ := h.2 i x j y hx hy
    rw [h1]
    exact h2

def exactOf (sz : Nat) : SV → Option (List (List SC))
  | .c (.lit (.slice none 0 0)) => some []
  | .c (.slc s 1 _ xs) => if s = sz then some xs else none
  | _ => none
def rowOf (sz : Nat) : SV → Option (List (List SC))
  | .c (.lit (.slice none 0 0)) => some []
  | .c (.slc s _ _ xs) => if s = sz then some xs else none
  | _ => none
theorem rowOf_rel {rd : Rd} {g : Env} {u : Value} {v : SV} {sz : Nat} {xs : List (List SC)} (h : VRel rd g u v) (hx : rowOf sz v = some xs) : IRel rd u (.slc sz 0 xs.length xs) := by
  unfold rowOf at hx
  split at hx
  · cases hx
    have := rel_lit h
    subst this
    exact .nil _ _ _ (by decide)
  · split at hx
    · rename_i hs; subst hs; cases hx; exact irel_len h.1
    · cases hx
  · cases hx
theorem exactOf_rel {rd : Rd} {g : Env} {u : Value} {v : SV} {sz : Nat} {xs : List (List SC)} (h : VRel rd g u v) (hx : exactOf sz v = some xs) : IRel rd u (.slc sz 0 xs.length xs) ∧ (u = .slice none 0 0 ∨ ∃ a, u = .slice (some a) xs.length xs.length) := by
  unfold exactOf at hx
  split at hx
  · cases hx
    have := rel_lit h
    subst this
    exact ⟨.nil _ _ _ (by decide), .inl rfl⟩
  · split at hx
    · rename_i hs; subst hs; cases hx; exact ⟨irel_len h.1, by have h2 := h.2; rw [irel_n h.1] at h2; exact h2⟩
    · cases hx
  · cases hx

/-- where the cells of a slice lie -/
theorem src_row {rd : Rd} {w : World} (hrd : ∀ b o v, rd b o = some v → w.cell? ⟨b, o, none⟩ = some v) {u : Value} {s : Nat} {N : Nat} {xs : List (List SC)} (h : IRel rd u (.slc s 0 N xs)) :
    ∃ a c vals, u = .slice a xs.length c ∧ xs.length ≤ c ∧ c ≤ maxLen ∧ RowIs rd s vals xs ∧ vals.length = xs.length * s ∧ (xs.length = 0 ∨ ∃ ad, a = some ad ∧ ∀ j v, vals[j]? = some v → w.cell? (ad.add j) = some v) ∨ (∃ a c, u = .slice a 0 c ∧ xs = [] ∧ c ≤ maxLen) := by
  generalize hsc : SC.slc s 0 N xs = y at h
  cases h with
  | lit v => cases hsc
  | nil s' a c hm => cases hsc; exact ⟨a, c, [], .inr ⟨a, c, rfl, rfl, hm⟩⟩
  | slc b o n c s' xs' f hn hc hm hs hr hu =>
    cases hsc
    obtain ⟨vals, h1, h2, h3, h4, h5⟩ := row_cells hrd (.slc b o _ c s xs f hn hc hm hs hr hu)
    subst hn
    exact ⟨some ⟨b, o, none⟩, c, vals, .inl ⟨rfl, hc, hm, ⟨h4, h5⟩, h1, .inr ⟨_, rfl, h2⟩⟩⟩
  | ref b o cs f hr hu => cases hsc
  | slc1 => cases hsc

theorem run_append_zero {P : Program} {w : World} (t ty e : TypeId) (i : TypeInfo) (ht : P.underlying t = some (.slice e)) (hi : P.info? e = some i) (base a : Option Addr) (n cap c : Nat) (hn : n ≤ cap) :
    (Builtin.append_ #[t, t] ty #[.slice base n cap, .slice a 0 c]).run P w = .ok (.slice base n cap) w := by
  cases a <;> cases base <;> simp [Builtin.append_, run_underlying ht, sizeOf, typeInfo, hi, Builtin.lenOf, Builtin.firstCells, loadCells, loadCellsFrom, storeCells, hn]

theorem oneCell_imm {rd : Rd} {u : Value} {y : SC} (h : IRel rd u y) (h1 : y.one = true) : u.oneCell' = true := one_cell (g := ⟨fun _ => (0, 0), fun _ => (undef, undef)⟩) h.c h1

theorem grow_append {α : Type} {P : Program} {o : Oper} {s : St} {t e : TypeId} {x y : Operand} {f : α → List SC} (sz by_ : Nat) (l1 l2 : List α) (ho : o.op = .call { callee := .builtin .append, args := #[x, y], argTypes := #[t, t] }) (hx : (opd s x).bind (exactOf sz) = some (l1.map f)) (hy : (opd s y).bind (rowOf sz) = some (l2.map f))
    (hu : P.underlying t = some (.slice e)) (hi' : (P.info? e).map (fun i => (i.zero.map (·.cells.size), i.size, i.bytes)) = some (some sz, sz, by_)) (hs0 : decide (0 < sz) = true) (hb : (l1.length + l2.length) * by_ ≤ 140737488355328) (hm : l1.length + l2.length ≤ 140737488355328) : GrowOp P o s (.c (.slc sz 0 (l1 ++ l2).length ((l1 ++ l2).map f))) := by
  intro g rd a w hview
  obtain ⟨vx, hx1, hx2⟩ := Option.bind_eq_some_iff.1 hx
  obtain ⟨vy, hy1, hy2⟩ := Option.bind_eq_some_iff.1 hy
  obtain ⟨rx, hex⟩ := exactOf_rel (hview.op x _ (by simp [ho, Op.operands, Call.operands]) hx1) hx2
  have ry := rowOf_rel (hview.op y _ (by simp [ho, Op.operands, Call.operands]) hy1) hy2
  obtain ⟨i, hi, hq⟩ := Option.map_eq_some_iff.1 hi'
  simp only [Prod.mk.injEq] at hq
  obtain ⟨hz, hsize, hbytes⟩ := hq
  obtain ⟨z, hz, hzc⟩ := Option.map_eq_some_iff.1 hz
  have hs0' := of_decide_eq_true hs0
  have hmax : l1.length + l2.length ≤ maxLen := by unfold maxLen; omega
  unfold mSafe
  simp only [execOp, ho, resolve, invoke, builtin, Sem.run_bind, Sem.run_pure, Result.andThen_ok, List.map_toArray, List.map_cons, List.map_nil]
  generalize hvx : a.eval x = ux at *
  generalize hvy : a.eval y = uy at *
  have ely : (l2.map f).length = l2.length := by simp
  have elx : (l1.map f).length = l1.length := by simp
  -- nothing appended: the slice itself
  have zero : l2 = [] → ∀ c, (∃ ad, uy = .slice ad 0 c) → mUpon P (fun u w' => ∀ rd', rd.le rd' → Sees w rd' w' → VRel rd' g u (.c (.slc sz 0 (l1 ++ l2).length ((l1 ++ l2).map f)))) w (((Builtin.append_ #[t, t] o.type #[ux, uy]).run P w).andThen fun v w' => .ok (.value v) w') := by
    rintro rfl c ⟨ad, rfl⟩
    obtain ⟨base, n, cap, rfl, hn⟩ : ∃ base n cap, ux = .slice base n cap ∧ n ≤ cap := by
      rcases hex with h | ⟨ad', h⟩
      · exact ⟨none, 0, 0, h, Nat.le_refl _⟩
      · exact ⟨some ad', _, _, h, Nat.le_refl _⟩
    rw [run_append_zero t o.type e i hu hi base ad n cap c hn]
    refine ⟨Ext.refl w, fun rd' hle _ => ?_⟩
    rw [List.append_nil]
    exact ⟨by have := rx.mono hle; rw [elx] at this; exact this, trivial⟩
  have fresh : ∀ (need cap : Nat) (vals : List Value) (rest : Array Value), RowIs rd sz vals ((l1 ++ l2).map f) → vals.length = need * sz → need = l1.length + l2.length → need ≤ cap → cap ≤ maxLen →
      mUpon P (fun u w' => ∀ rd', rd.le rd' → Sees w rd' w' → VRel rd' g u (.c (.slc sz 0 (l1 ++ l2).length ((l1 ++ l2).map f)))) w (.ok (.value (.slice (some ⟨w.heap.size, 0, none⟩) need cap)) (w.drew.alloc (.cells (vals.toArray ++ rest) e))) := by
    intro need cap vals rest hrow hlv hneed hc hcm
    refine ⟨(Ext.drew w).trans (Ext.alloc _ _), fun rd' hle hsees => ⟨?_, trivial⟩⟩
    rw [show (l1 ++ l2).length = need by rw [List.length_append, hneed]]
    refine row_is (hrow.mono hle) (by simp [hneed]) hc hcm (fun k v hv _ => hsees w.heap.size k v (Nat.le_refl _) ?_)
    refine (World.cell?_alloc_at (w := w.drew) (vals.toArray ++ rest) e w.heap.size k rfl).trans ?_
    rw [Array.getElem?_append_left (by have := (List.getElem?_eq_some_iff.1 hv).1; simpa using this)]
    simpa using hv
  obtain ⟨ay, cy, valsy, hsrc⟩ := src_row hview.reads ry
  rcases hsrc with ⟨hy3, hy4, hy5, hrow, hlv, hwhere⟩ | ⟨ad, c, hy3, hnil, _⟩
  rotate_left
  · exact zero (by simpa using hnil) c ⟨ad, hy3⟩
  by_cases hl2 : l2 = []
  · subst hl2
    exact zero rfl cy ⟨ay, by simpa using hy3⟩
  have hpos : 0 < l2.length := List.length_pos_iff.2 hl2
  rcases hwhere with hw | ⟨ad, had, hcells⟩
  · rw [ely] at hw; omega
  subst had
  rw [ely] at hy3 hlv
  subst hy3
  rcases hex with hnone | ⟨adx, hsome⟩
  · subst hnone
    have hl1 : l1 = [] := by
      generalize hsc : SC.slc sz 0 (l1.map f).length (l1.map f) = q at rx
      cases rx with
      | lit => cases hsc
      | nil s' a' c' hm' => injection hsc with _ _ _ h3; simpa using h3
      | slc1 => cases hsc
    subst hl1
    have hr := run_append_nil (P := P) w t o.type e i z hu hi hz ad l2.length cy valsy (by rw [hsize]; exact hlv) hcells hpos (by omega) (by rw [hbytes]; simp only [List.length_nil, Nat.zero_add] at hb; omega)
    rw [hr]
    have hge := grownCap_ge w l2.length 0 e
    have hcm := grownCap_le_maxLen w l2.length 0 e (by simp only [List.length_nil, Nat.zero_add] at hmax; exact hmax)
    exact fresh l2.length _ valsy _ (by simpa using hrow) hlv (by simp) hge hcm
  · rw [elx] at hsome
    subst hsome
    obtain ⟨ax, cx, valsx, hsx⟩ := src_row hview.reads rx
    have hrx : ∃ valsx, RowIs rd sz valsx (l1.map f) ∧ valsx.length = l1.length * sz ∧ ∀ j v, valsx[j]? = some v → w.cell? (adx.add j) = some v := by
      rcases hsx with ⟨h3, _, _, hrow', hlv', hwhere'⟩ | ⟨ad', c', h3, hnil', _⟩
      · rw [elx] at h3 hlv' hwhere'
        injection h3 with h4
        rcases hwhere' with h0 | ⟨ad', had', hcells'⟩
        · have : l1 = [] := List.eq_nil_of_length_eq_zero h0
          subst this
          exact ⟨[], ⟨by simp, by simp⟩, by simp, by simp⟩
        · rw [had'] at h4
          injection h4 with h5
          subst h5
          exact ⟨valsx, hrow', hlv', hcells'⟩
      · have : l1 = [] := by simpa using hnil'
        subst this
        exact ⟨[], ⟨by simp, by simp⟩, by simp, by simp⟩
    obtain ⟨valsx, hrow', hlv', hcells'⟩ := hrx
    have hr := run_append_grow (P := P) w t o.type e i z hu hi hz adx l1.length l1.length valsx (by rw [hsize]; exact hlv') hcells' ad l2.length cy valsy (by rw [hsize]; exact hlv) hcells (by omega) (by omega) (growslice_fits (by omega) (by rw [hbytes]; exact hb))
    rw [hr]
    have hge := grownCap_ge w (l1.length + l2.length) l1.length e
    have hcm := grownCap_le_maxLen w (l1.length + l2.length) l1.length e hmax
    have := fresh (l1.length + l2.length) (grownCap w (l1.length + l2.length) l1.length e) (valsx ++ valsy) (Builtin.zeroCells z.cells (grownCap w (l1.length + l2.length) l1.length e - (l1.length + l2.length)))
      (by rw [List.map_append]; exact hrow'.append hrow (by rw [elx]; exact hlv')) (by rw [List.length_append, hlv', hlv, Nat.add_mul]) rfl hge hcm
    simpa using this

def chunks (s : Nat) : Nat → List SC → List (List SC)
  | 0, _ => []
  | n + 1, cs => cs.take s :: chunks s n (cs.drop s)
def SC.imm : SC → Option SC
  | .lit v => some (.lit v)
  | .slc s _ n xs => some (.slc s 0 n xs)
  | .ref cs => some (.ref cs)
  | _ => none
theorem imm_rel {rd : Rd} {g : Env} {u : Value} {x y : SC} (h : CRel rd g u x) (hy : x.imm = some y) : IRel rd u y := by
  cases x <;> simp only [SC.imm, reduceCtorEq] at hy
  case lit => cases hy; exact h
  case slc => cases hy; exact h.1
  case ref => cases hy; exact h
def immL : List SC → Option (List SC)
  | [] => some []
  | x :: xs => match x.imm, immL xs with
    | some y, some ys => some (y :: ys)
    | _, _ => none
theorem immL_get : ∀ (xs ys : List SC), immL xs = some ys → xs.length = ys.length ∧ ∀ (j : Nat) (y : SC), ys[j]? = some y → ∃ x, xs[j]? = some x ∧ x.imm = some y
  | [], ys, h => by cases h; exact ⟨rfl, by simp⟩
  | x :: xs, ys, h => by
    simp only [immL] at h
    split at h
    · rename_i y' ys' h1 h2
      cases h
      obtain ⟨h3, h4⟩ := immL_get xs ys' h2
      refine ⟨by simp [h3], fun j y hy => ?_⟩
      cases j with
      | zero => cases hy; exact ⟨x, rfl, h1⟩
      | succ j => exact h4 j y hy
    · cases h
theorem chunks_length (s : Nat) : ∀ (n : Nat) (cs : List SC), (chunks s n cs).length = n
  | 0, _ => rfl
  | n + 1, cs => by simp [chunks, chunks_length s n]
theorem chunks_get (s : Nat) : ∀ (n : Nat) (cs : List SC) (i : Nat) (x : List SC), n * s ≤ cs.length → (chunks s n cs)[i]? = some x → x.length = s ∧ ∀ (j : Nat) (y : SC), x[j]? = some y → cs[i * s + j]? = some y
  | 0, cs, i, x, _, h => by simp [chunks] at h
  | n + 1, cs, i, x, hl, h => by
    rw [Nat.add_mul] at hl
    cases i with
    | zero =>
      simp only [chunks, List.getElem?_cons_zero, Option.some.injEq] at h
      subst h
      refine ⟨by simp; omega, fun j y hy => ?_⟩
      rw [List.getElem?_take] at hy
      split at hy
      · simpa using hy
      · cases hy
    | succ i =>
      simp only [chunks, List.getElem?_cons_succ] at h
      obtain ⟨h1, h2⟩ := chunks_get s n (cs.drop s) i x (by simp; omega) h
      refine ⟨h1, fun j y hy => ?_⟩
      have := h2 j y hy
      rw [List.getElem?_drop] at this
      rw [show (i + 1) * s + j = s + (i * s + j) by rw [Nat.add_mul]; omega]
      exact this
/-- the elements of a slice that is written out -/
def buildL (P : Program) (s : St) (e : TypeId) (len : Nat) (ks : List Nat) (parts : List (Nat × Operand)) : Option (List (List SC)) := match P.info? e, partsS s parts with
  | some ie, some ps => match ie.zero with
    | some z => match fillS (fun i => some (i * ie.size, ie.size)) (((Array.range (len * ie.size)).map (z.cells[· % z.cells.size]!)).toList.map SC.lit) ps with
      | some cs => match immL cs with
        | some cs' => some ((chunks ie.size len cs').map (castL ks))
        | none => none
      | none => none
    | none => none
  | _, _ => none
theorem cast1_imm {rd : Rd} {u : Value} {x : SC} (k : Nat) (h : IRel rd u x) : IRel rd u (cast1 k x) := by
  unfold cast1
  split
  · exact h
  · split
    · cases h; exact .nil _ _ _ (by decide)
    · cases h with
      | nil _ a c hm => exact .nil _ a c hm
      | slc b o n c _ _ u hn hc hm hs hr hu => exact .slc b o _ c _ _ u hn hc hm hs hr hu
      | slc1 _ _ _ _ h _ => exact h
    · exact h
def subO {α : Type} (l : List α) (a b : Int) : Option (List α) := if 0 ≤ a ∧ a ≤ b ∧ b ≤ l.length then some ((l.take b.toNat).drop a.toNat) else none
def appO {α : Type} (by_ : Nat) (l1 l2 : List α) : Option (List α) := if (l1.length + l2.length) * by_ ≤ 140737488355328 ∧ l1.length + l2.length ≤ 140737488355328 then some (l1 ++ l2) else none
section
variable {P : Program} {K : Ctx} {n : Nat} {Q : Exit → St → Prop} {C : Cfg} {α : Type}
def idxArgs (P : Program) (s : St) (o : Oper) : Option (List (List SC) × Int) := match o.op with
  | .indexAddr t x y => match opd s x, opd s y, P.underlying t with
    | some (.c (.slc sz _ _ xs)), some (.c (.lit (.int _ i))), some (.slice e) => match P.info? e with
      | some ie => if ie.size = sz then some (xs, i) else none
      | none => none
    | _, _, _ => none
  | _ => none
theorem grow_idx {s : St} {o : Oper} {f : α → List SC} {l : List α} {i : Int} {e : α} (he : idx l i = some e) (h : idxArgs P s o = some (l.map f, i)) : GrowOp P o s (.c (.ref (f e))) := by
  unfold idxArgs at h
  split at h
  · rename_i t x y ho
    split at h
    · rename_i sz tag N xs k i' e' hx hy hu
      split at h
      · rename_i ie hie
        split at h
        · rename_i hs
          cases h
          obtain ⟨h0, h1⟩ := idx_spec he
          exact (pure_indexSlc tag sz N _ i (f e) ho hx hy hu (by rw [hie, ← hs]; rfl) h0 (map_get h1)).grow
        · cases h
      · cases h
    · cases h
  · cases h
def Cfg.with1 {β : Type} (C : Cfg) (f : St → Oper → Option β) : Option β := match C.op with
  | some (_, o) => f C.st o
  | none => none
theorem with1_op {β : Type} {f : St → Oper → Option β} {b : β} (h : C.with1 f = some b) {os : Array Oper} {o : Oper} (ho : C.op = some (os, o)) : f C.st o = some b := by
  unfold Cfg.with1 at h
  rw [ho] at h
  exact h
theorem TS_idx (f : α → List SC) {l : List α} {i : Int} {e : α} (he : idx l i = some e) (h : C.with1 (idxArgs P) = some (l.map f, i)) (hg : C.go1 n = true) (k : TS P K n (C.ret (.c (.ref (f e)))) Q) : TS P K n C Q :=
  TS_val _ hg (fun _ _ ho => grow_idx he (with1_op h ho)) k

def bnd (s : St) (d : Int) : Option Operand → Option (Option (IntKind × Int) × Int)
  | none => some (none, d)
  | some x => match opd s x with
    | some (.c (.lit (.int k i))) => some (some (k, i), i)
    | _ => none
def subArgs (P : Program) (s : St) (o : Oper) : Option (Nat × List (List SC) × Int × Int) := match o.op with
  | .slice t x lo hi none => match opd s x, P.underlying t with
    | some (.c (.slc sz _ N xs)), some (.slice e) => match P.info? e, bnd s 0 lo, bnd s N hi with
      | some ie, some (_, a), some (_, b) => if ie.size = sz then some (sz, xs, a, b) else none
      | _, _, _ => none
    | _, _ => none
  | _ => none
theorem bnd_spec {s : St} {d i : Int} {x : Option Operand} {v : Option (IntKind × Int)} (h : bnd s d x = some (v, i)) : x.map (opd s) = v.map (fun p => some (int p.1 p.2)) ∧ i = (v.map (·.2)).getD d := by
  unfold bnd at h
  split at h
  · cases h; exact ⟨rfl, rfl⟩
  · split at h
    · rename_i y k j hy; cases h; exact ⟨by simp [hy, int], rfl⟩
    · cases h
theorem grow_subS {s : St} {o : Oper} {f : α → List SC} {sz : Nat} {l l' : List α} {a b : Int} (he : subO l a b = some l') (h : subArgs P s o = some (sz, l.map f, a, b)) : GrowOp P o s (.c (.slc sz 0 l'.length (l'.map f))) := by
  unfold subO at he
  split at he
  · rename_i hab
    cases he
    unfold subArgs at h
    split at h
    · rename_i t x lo hi ho
      split at h
      · rename_i sz' tag N xs e' hx hu
        split at h
        · rename_i ie v1 a' v2 b' hie h1 h2
          split at h
          · rename_i hs
            cases h
            obtain ⟨q1, q2⟩ := bnd_spec h1
            obtain ⟨q3, q4⟩ := bnd_spec h2
            exact grow_slice sz tag N l v1 v2 a b ho hx q1 q3 q2 q4 hu (by rw [hie, ← hs]; rfl) hab.1 hab.2.1 hab.2.2
          · cases h
        · cases h
      · cases h
    · cases h
  · cases he
theorem TS_sub (f : α → List SC) (sz : Nat) {l l' : List α} {a b : Int} (he : subO l a b = some l') (h : C.with1 (subArgs P) = some (sz, l.map f, a, b)) (hg : C.go1 n = true) (k : TS P K n (C.ret (.c (.slc sz 0 l'.length (l'.map f)))) Q) : TS P K n C Q :=
  TS_val _ hg (fun _ _ ho => grow_subS he (with1_op h ho)) k

/-- append to nil, or to a slice without room -/
def appArgs (P : Program) (s : St) (o : Oper) : Option (Nat × Nat × List (List SC) × List (List SC)) := match o.op with
  | .call { callee := .builtin .append, args := xs, argTypes := ts } => match xs.toList, ts.toList with
    | [x, y], [t, t'] => match P.underlying t with
      | some (.slice e) => match P.info? e with
        | some ie => match (opd s x).bind (exactOf ie.size), (opd s y).bind (rowOf ie.size) with
          | some a, some b => if t = t' ∧ ie.zero.map (·.cells.size) = some ie.size ∧ 0 < ie.size then some (ie.size, ie.bytes, a, b) else none
          | _, _ => none
        | none => none
      | _ => none
    | _, _ => none
  | _ => none
theorem grow_appS {s : St} {o : Oper} {f : α → List SC} {sz by_ : Nat} {l1 l2 l' : List α} (he : appO by_ l1 l2 = some l') (h : appArgs P s o = some (sz, by_, l1.map f, l2.map f)) : GrowOp P o s (.c (.slc sz 0 l'.length (l'.map f))) := by
  unfold appO at he
  split at he
  · rename_i hab
    cases he
    unfold appArgs at h
    split at h
    · rename_i xs ts ho
      split at h
      · rename_i x y t t' hxs hts
        split at h
        · rename_i e hu
          split at h
          · rename_i ie hie
            split at h
            · rename_i a b hx hy
              split at h
              · rename_i hc
                cases h
                obtain ⟨rfl, hz, h0⟩ := hc
                have ha' : xs = #[x, y] := by rw [← Array.toArray_toList (xs := xs), hxs]
                have ht' : ts = #[t, t] := by rw [← Array.toArray_toList (xs := ts), hts]
                subst ha' ht'
                exact grow_append ie.size ie.bytes l1 l2 ho hx hy hu (by rw [hie]; simp [hz]) (by simpa using h0) hab.1 hab.2
              · cases h
            · cases h
          · cases h
        · cases h
      · cases h
    · cases h
  · cases he
theorem TS_app (f : α → List SC) (sz : Nat) {by_ : Nat} {l1 l2 l' : List α} (he : appO by_ l1 l2 = some l') (h : C.with1 (appArgs P) = some (sz, by_, l1.map f, l2.map f)) (hg : C.go1 n = true) (k : TS P K n (C.ret (.c (.slc sz 0 l'.length (l'.map f)))) Q) : TS P K n C Q :=
  TS_val _ hg (fun _ _ ho => grow_appS he (with1_op h ho)) k
end
end
section
open Go.RowKit

def baseS (f : Fit) (s : St) : St := match fitS f s with
  | some s' => s'
  | none => ⟨[], []⟩
section
variable {P : Program} {K : Ctx} {n : Nat} {Q : Exit → St → Prop} {C : Cfg} {X ρ σ B : Type}
theorem TS_joinB (f : Fit) (tv : X → List (Nat × SV)) (rv : X → List (Nat × Res)) (j : X → Option ρ) (r : ρ) (hj : ∀ v, j v = some r → TS P K n (C.seq2 ((baseS f C.st).overs (tv v) (rv v))) Q)
    (hx : TS P K n C.seq1 (joinQ P K n C.rest Q (fun v => (baseS f C.st).overs (tv v) (rv v)) j r)) : TS P K n C Q := TS_join _ j r hj hx
theorem T_monoR {c : Code} {s : St} {Q' : Exit → St → Prop} (h : T P K n c s Q) (k : ∀ e s, Q e s → ∃ s', (∀ a w, R K n a w s → R K n a w s') ∧ Q' e s') : T P K n c s Q' := fun a w r =>
  wp_mono (h a w r) fun _e _a' _w' ⟨_s', r', q⟩ => let ⟨s'', h1, h2⟩ := k _ _ q; ⟨s'', h1 _ _ r', h2⟩
def loopQB (P : Program) (K : Ctx) (n : Nat) (fs : List Fr) (Q : Exit → St → Prop) (I : σ → St) (x : σ ⊕ ρ) (e0 : Exit) (inB : B → ρ) (SB : B → St) : Exit → St → Prop
  | .normal, st => ∃ s', x = .inl s' ∧ ∀ a w, R K n a w st → R K n a w (I s')
  | e, st => (e = e0 ∧ ∃ b, x = .inr (inB b) ∧ ∀ a w, R K n a w st → R K n a w (SB b)) ∨ ((∃ y, x = .inr y) ∧ QS P K n fs Q e st)
theorem TS_loopB (step : σ → Option (σ ⊕ ρ)) (f : Fit) (tv : σ → List (Nat × SV)) (rv : σ → List (Nat × Res)) (s0 : σ) (y0 : ρ) (e0 : Exit) (inB : B → ρ) (fB : Fit) (tB : B → List (Nat × SV)) (rB : B → List (Nat × Res)) (hr : loopO step s0 = some y0) (hC : C.isLoop = true) (h0 : fitS f C.st = some ((baseS f C.st).overs (tv s0) (rv s0)))
    (hbody : ∀ s x, step s = some x → (∀ y, x = .inr y → y = y0) → TS P K n (C.body ((baseS f C.st).overs (tv s) (rv s))) (loopQB P K n C.rest Q (fun s => (baseS f C.st).overs (tv s) (rv s)) x e0 inB (fun b => (baseS fB C.st).overs (tB b) (rB b))))
    (hrest : ∀ b, y0 = inB b → TS P K n (.mk C.rest e0 ((baseS fB C.st).overs (tB b) (rB b))) Q) : TS P K n C Q := by
  unfold Cfg.isLoop at hC
  split at hC
  · rename_i c fs st
    simp only [Cfg.body, Cfg.rest, Cfg.st] at hbody h0 hrest
    obtain ⟨m, hm⟩ := loopO_some hr
    generalize hI : (fun s => (baseS f st).overs (tv s) (rv s)) = I at hbody
    have hI' : ∀ s, (baseS f st).overs (tv s) (rv s) = I s := fun s => by rw [← hI]
    simp only [hI'] at h0 hbody
    have main : T P K n (.loop c) (I s0) (QS P K n fs Q) := by
      refine T_loop (ι := Nat × σ) (fun p s => iterO step p.1 p.2 = some y0 ∧ ∀ a w, R K n a w s → R K n a w (I p.2)) (fun p => p.1) (m, s0) ⟨hm, fun _ _ x => x⟩ ?_
      rintro ⟨k, s⟩ st' ⟨hk, hR⟩
      cases k with
      | zero => cases hk
      | succ k =>
        simp only [iterO] at hk
        cases hs : step s with
        | none => rw [hs] at hk; cases hk
        | some x =>
          rw [hs] at hk
          have hb := hbody s x hs (fun y hy => by subst hy; simpa using hk)
          have hb2 := fun a w rr => hb a w (hR a w rr)
          refine T_monoR (Q := _) hb2 fun e st'' hq => ?_
          have fin : ∀ e, e ≠ .normal → ((e = e0 ∧ ∃ b, x = .inr (inB b) ∧ ∀ a w, R K n a w st'' → R K n a w ((baseS fB st).overs (tB b) (rB b))) ∨ ((∃ y, x = .inr y) ∧ QS P K n fs Q e st'')) → ∃ s', (∀ a w, R K n a w st'' → R K n a w s') ∧ QS P K n fs Q e s' := by
            rintro e _ (⟨rfl, b, h2, h3⟩ | ⟨_, h2⟩)
            · subst h2
              exact ⟨_, h3, hrest b (by simpa using hk.symm)⟩
            · exact ⟨_, fun _ _ x => x, h2⟩
          cases e with
          | normal =>
            obtain ⟨s', rfl, h2⟩ := hq
            exact ⟨st'', fun _ _ x => x, (k, s'), ⟨hk, h2⟩, Nat.lt_succ_self k⟩
          | exit i => exact fin _ (by simp) hq
          | goto i => exact fin _ (by simp) hq
          | ret => exact fin _ (by simp) hq
          | panic i => exact fin _ (by simp) hq
          | outgrown => exact fin _ (by simp) hq
    exact fun a w rr => main a w (rr.fit f h0)
  · cases hC
variable {fs : List Fr} {I : σ → St} {x : σ ⊕ ρ} {e0 : Exit} {inB : B → ρ} {SB : B → St}
theorem TS_againB (s' : σ) (f : Fit) (hx : x = .inl s') (he : C.ended = true) (hf : fitS f C.st = some (I s')) : TS P K n C (loopQB P K n fs Q I x e0 inB SB) := by
  unfold Cfg.ended at he
  split at he
  · exact ⟨s', hx, fun a w rr => rr.fit f hf⟩
  · cases he
theorem TS_retB {y : ρ} (hx : x = .inr y) (he : C.abn = true) (k : TS P K n (C.out fs) Q) : TS P K n C (loopQB P K n fs Q I x e0 inB SB) := by
  unfold Cfg.abn at he
  split at he
  · exact .inr ⟨⟨y, hx⟩, k⟩
  · exact .inr ⟨⟨y, hx⟩, k⟩
  · cases he
def Cfg.ex : Cfg → Exit
  | .mk _ e _ => e
  | .bad => .outgrown
theorem TS_brkB (b : B) (f : Fit) (hx : x = .inr (inB b)) (he : C.abn = true) (hE : C.ex = e0) (hf : fitS f C.st = some (SB b)) : TS P K n C (loopQB P K n fs Q I x e0 inB SB) := by
  unfold Cfg.abn at he
  split at he
  · exact .inl ⟨hE, b, hx, fun a w rr => rr.fit f hf⟩
  · exact .inl ⟨hE, b, hx, fun a w rr => rr.fit f hf⟩
  · cases he
theorem elimL {α β γ : Type} {f : α → Option γ} {g : β → Option γ} {a : α} {r : γ} (h : Sum.elim f g (Sum.inl a) = some r) : f a = some r := h
theorem elimR {α β γ : Type} {f : α → Option γ} {g : β → Option γ} {a : β} {r : γ} (h : Sum.elim f g (Sum.inr a) = some r) : g a = some r := h

def chkArgs (_P : Program) (s : St) (o : Oper) : Option (BinOp × IntKind × IntKind × Int × Int) := match o.op with
  | .binOp op _ x y _ => match opd s x, opd s y with
    | some (.c (.lit (.int k m))), some (.c (.lit (.int k' i))) => some (op, k, k', m, i)
    | _, _ => none
  | _ => none
theorem TS_num {op : BinOp} {k k' : IntKind} {m i : Int} {v : SV} {p : Prop} (hp : p) (hv : intBinC op k m i = some (v, p)) (hk : op = .shl ∨ op = .shr ∨ k' = k) (h : C.with1 (chkArgs P) = some (op, k, k', m, i)) (hg : C.go1 n = true) (kk : TS P K n (C.ret v) Q) : TS P K n C Q := by
  refine TS_val v hg (fun os o ho => ?_) kk
  have h1 := with1_op h ho
  unfold chkArgs at h1
  split at h1
  · rename_i op' t x y t' ho'
    split at h1
    · rename_i k1 m1 k2 i1 hx hy
      cases h1
      exact (pure_intC m i hk ho' hx hy hv hp).grow
    · cases h1
  · cases h1
end
end
end Go.Proofs.YtplihihjfjmbfaaGreat
