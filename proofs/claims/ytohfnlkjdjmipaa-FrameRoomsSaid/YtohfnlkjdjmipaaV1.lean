/-
  SHADOWS, second make: values without addresses that stand for the values of a run; named resources (variables, own rows, spare room) that stand for the memory that a call may write; the relation between a run and its shadow; one step lemma for whatever changes memory.
-/
import Derived.Test.YtohfnlkjdjmipaaMono
import Derived.Laws.AppendOwn
import Derived.Laws.IdiomCopy
import Derived.Laws.NewBlocks
namespace Go.Proofs.Ytohfnlkjdjmipaa
open Go.RowKit

inductive SC where
  | lit (v : Value)
  | slc (s tag n : Nat) (xs : List (List SC))
  | ref (cs : List SC)
  | box (d off : Nat)
  | own (d : Nat)
  | row (d n : Nat)
  | win (d off n : Nat)
  | sub (d s a n : Nat)
  | elt (d s i off : Nat)
  | any
  | clo (f : Nat) (cs : List SC)

inductive SV where
  | c (x : SC)
  | agg (cs : List SC)
  | tup (vs : List (Bool × List SC))

abbrev Rd := Nat → Nat → Option Value
def Rd.le (r r' : Rd) : Prop := ∀ b o v, r b o = some v → r' b o = some v
theorem Rd.le.refl (r : Rd) : r.le r := fun _ _ _ h => h
theorem Rd.le.trans {r r' r'' : Rd} (h : r.le r') (k : r'.le r'') : r.le r'' := fun b o v x => k b o v (h b o v x)

/-- memory that is never written again holds what the shadow says -/
inductive IRel (rd : Rd) : Value → SC → Prop
  | lit (v : Value) : IRel rd v (.lit v)
  | nil (s : Nat) (a : Option Addr) (c : Nat) (hm : c ≤ maxLen) : IRel rd (.slice a 0 c) (.slc s 0 0 [])
  | slc (b o n c s : Nat) (xs : List (List SC)) (u : Nat → Nat → Value) (hn : xs.length = n) (hc : n ≤ c) (hm : c ≤ maxLen) (hs : ∀ x ∈ xs, x.length = s)
      (hr : ∀ i x j y, xs[i]? = some x → x[j]? = some y → rd b (o + i * s + j) = some (u i j))
      (hu : ∀ i x j y, xs[i]? = some x → x[j]? = some y → IRel rd (u i j) y) : IRel rd (.slice (some ⟨b, o, none⟩) n c) (.slc s 0 n xs)
  | ref (b o : Nat) (cs : List SC) (u : Nat → Value) (hr : ∀ j y, cs[j]? = some y → rd b (o + j) = some (u j))
      (hu : ∀ j y, cs[j]? = some y → IRel rd (u j) y) : IRel rd (.pointer (some ⟨b, o, none⟩)) (.ref cs)

theorem IRel.mono {r r' : Rd} (h : r.le r') {v : Value} {x : SC} (k : IRel r v x) : IRel r' v x := by
  induction k with
  | lit v => exact .lit v
  | nil s a c hm => exact .nil s a c hm
  | slc b o n c s xs u hn hc hm hs hr _ ih => exact .slc b o n c s xs u hn hc hm hs (fun i x j y hx hy => h _ _ _ (hr i x j y hx hy)) (fun i x j y hx hy => ih i x j y hx hy)
  | ref b o cs u hr _ ih => exact .ref b o cs u (fun j y hy => h _ _ _ (hr j y hy)) (fun j y hy => ih j y hy)

/-- the cells of memory, read as elements -/
def RowIs (rd : Rd) (s : Nat) (vals : List Value) (xs : List (List SC)) : Prop :=
  (∀ x ∈ xs, x.length = s) ∧ ∀ (i : Nat) (x : List SC) (j : Nat) (y : SC), xs[i]? = some x → x[j]? = some y → ∃ u, vals[i * s + j]? = some u ∧ IRel rd u y
theorem RowIs.mono {rd rd' : Rd} (hle : rd.le rd') {s : Nat} {us : List Value} {xs : List (List SC)} (h : RowIs rd s us xs) : RowIs rd' s us xs :=
  ⟨h.1, fun i x j y hx hy => let ⟨u, h1, h2⟩ := h.2 i x j y hx hy; ⟨u, h1, h2.mono hle⟩⟩

/-- where the resources lie -/
structure Env where
  pos : Nat → Nat × Nat
  tk : Nat → Value × Value

def vlen : Value → Nat
  | .slice _ n _ => n
  | _ => 0

/-- the tag of a slice: 0 nothing · 1 no room behind it · t + 2 the row t, if of its length -/
def Tag (g : Env) (v : Value) (n : Nat) : Nat → Prop
  | 0 => True
  | 1 => v = .slice none 0 0 ∨ ∃ a, v = .slice (some a) n n
  | t + 2 => n ≤ vlen (g.tk t).2 ∧ (n = vlen (g.tk t).2 → v = (g.tk t).2)

def CRel0 (rd : Rd) (g : Env) (v : Value) : SC → Prop
  | .box d off => v = .pointer (some ⟨(g.pos d).1, (g.pos d).2 + off, none⟩)
  | .own d => v = (g.tk d).1 ∧ ∃ a n c, (g.tk d).1 = .slice a n c
  | .row d n => ∃ a N c, (g.tk d).1 = .slice a N c ∧ v = .slice a n c ∧ n ≤ N
  | .sub d s a n => ∃ b N c x c', (g.tk d).1 = .slice b N c ∧ a + n ≤ N ∧ v = .slice x n c' ∧ n ≤ c' ∧ c' ≤ maxLen ∧ (n = 0 ∨ ∃ blk, b = some ⟨blk, 0, none⟩ ∧ x = some ⟨blk, a * s, none⟩)
  | .elt d s i off => ∃ b N c, (g.tk d).1 = .slice (some ⟨b, 0, none⟩) N c ∧ v = .pointer (some ⟨b, i * s + off, none⟩)
  | .any => True
  | .win d off n => ∃ a c, v = .slice a n c ∧ n ≤ c ∧ c ≤ maxLen ∧ (n = 0 ∨ a = some ⟨(g.pos d).1, (g.pos d).2 + off, none⟩)
  | .slc s tag n xs => IRel rd v (.slc s 0 n xs) ∧ Tag g v n tag
  | .lit u => IRel rd v (.lit u)
  | .ref cs => IRel rd v (.ref cs)
  | .clo _ _ => False
def CRel (rd : Rd) (g : Env) (v : Value) : SC → Prop
  | .clo f cs => ∃ caps : Array Value, v = .func (.func f) #[] caps ∧ caps.size = cs.length ∧ ∀ (j : Nat) (y : SC), cs[j]? = some y → ∃ u, caps[j]? = some u ∧ CRel0 rd g u y
  | .box d off => CRel0 rd g v (.box d off)
  | .own d => CRel0 rd g v (.own d)
  | .row d n => CRel0 rd g v (.row d n)
  | .win d off n => CRel0 rd g v (.win d off n)
  | .sub d s a n => CRel0 rd g v (.sub d s a n)
  | .elt d s i off => CRel0 rd g v (.elt d s i off)
  | .any => CRel0 rd g v .any
  | .slc s tag n xs => CRel0 rd g v (.slc s tag n xs)
  | .lit u => CRel0 rd g v (.lit u)
  | .ref cs => CRel0 rd g v (.ref cs)

theorem CRel0.up {rd : Rd} {g : Env} {v : Value} {x : SC} (h : CRel0 rd g v x) : CRel rd g v x := by
  cases x with
  | clo f cs => exact h.elim
  | _ => exact h
theorem CRel.down {rd : Rd} {g : Env} {v : Value} {x : SC} (hx : ∀ f cs, x ≠ .clo f cs) (h : CRel rd g v x) : CRel0 rd g v x := by
  cases x <;> first | exact h | exact absurd rfl (hx _ _)
theorem IRel.c {rd : Rd} {g : Env} {v : Value} {x : SC} (h : IRel rd v x) : CRel rd g v x := by
  cases h with
  | lit v => exact .lit v
  | nil s a c hm => exact ⟨.nil s a c hm, trivial⟩
  | slc b o n c s xs u hn hc hm hs hr hu => exact ⟨.slc b o n c s xs u hn hc hm hs hr hu, trivial⟩
  | ref b o cs u hr hu => exact .ref b o cs u hr hu

/-! ### the names in a value; a change of names -/
def SC.say0 (p : Nat → Bool) : SC → Bool
  | .box d _ => p d
  | .own d => p d
  | .row d _ => p d
  | .win d _ _ => p d
  | .sub d _ _ _ => p d
  | .elt d _ _ _ => p d
  | .slc _ tag _ _ => match tag with
    | t + 2 => p t
    | _ => true
  | _ => true
def SC.say (p : Nat → Bool) : SC → Bool
  | .clo _ cs => cs.all (SC.say0 p)
  | x => x.say0 p
def SC.ren0 (f : Nat → Nat) : SC → SC
  | .box d o => .box (f d) o
  | .own d => .own (f d)
  | .row d n => .row (f d) n
  | .win d o n => .win (f d) o n
  | .sub d s a n => .sub (f d) s a n
  | .elt d s i o => .elt (f d) s i o
  | .slc s tag n xs => match tag with
    | t + 2 => .slc s (f t + 2) n xs
    | k => .slc s k n xs
  | x => x
def SC.ren (f : Nat → Nat) : SC → SC
  | .clo k cs => .clo k (cs.map (SC.ren0 f))
  | x => x.ren0 f

theorem CRel0.ren {r r' : Rd} (hr : r.le r') {g g' : Env} (f : Nat → Nat) (p : Nat → Bool) (h : ∀ d, p d = true → g'.pos (f d) = g.pos d ∧ g'.tk (f d) = g.tk d) {v : Value} {x : SC} (hx : x.say0 p = true) (k : CRel0 r g v x) : CRel0 r' g' v (x.ren0 f) := by
  cases x with
  | lit u => exact k.mono hr
  | ref cs => exact k.mono hr
  | box d off => simp only [SC.say0] at hx; simp only [SC.ren0, CRel0, (h d hx).1] at *; exact k
  | own d => simp only [SC.say0] at hx; simp only [SC.ren0, CRel0, (h d hx).2] at *; exact k
  | row d n => simp only [SC.say0] at hx; simp only [SC.ren0, CRel0, (h d hx).2] at *; exact k
  | win d off n => simp only [SC.say0] at hx; simp only [SC.ren0, CRel0, (h d hx).1] at *; exact k
  | sub d s a n => simp only [SC.say0] at hx; simp only [SC.ren0, CRel0, (h d hx).2] at *; exact k
  | elt d s i off => simp only [SC.say0] at hx; simp only [SC.ren0, CRel0, (h d hx).2] at *; exact k
  | any => trivial
  | slc s tag n xs =>
    rcases tag with _ | _ | t
    · exact ⟨k.1.mono hr, trivial⟩
    · exact ⟨k.1.mono hr, k.2⟩
    · simp only [SC.say0] at hx
      refine ⟨k.1.mono hr, ?_⟩
      have h2 := k.2
      simp only [Tag, (h t hx).2] at h2 ⊢
      exact h2
  | clo c cs => exact k.elim
theorem CRel.ren {r r' : Rd} (hr : r.le r') {g g' : Env} (f : Nat → Nat) (p : Nat → Bool) (h : ∀ d, p d = true → g'.pos (f d) = g.pos d ∧ g'.tk (f d) = g.tk d) {v : Value} {x : SC} (hx : x.say p = true) (k : CRel r g v x) : CRel r' g' v (x.ren f) := by
  cases x with
  | clo c cs =>
    obtain ⟨caps, h1, h2, h3⟩ := k
    refine ⟨caps, h1, by simpa using h2, fun j y hy => ?_⟩
    rw [List.getElem?_map] at hy
    obtain ⟨y0, hy0, rfl⟩ := Option.map_eq_some_iff.1 hy
    obtain ⟨u, h4, h5⟩ := h3 j y0 hy0
    exact ⟨u, h4, h5.ren hr f p h (List.all_eq_true.1 hx y0 (List.mem_of_getElem? hy0))⟩
  | lit u => exact CRel0.up (CRel0.ren hr f p h (x := .lit u) hx k)
  | ref cs => exact CRel0.up (CRel0.ren hr f p h (x := .ref cs) hx k)
  | box d off => exact CRel0.up (CRel0.ren hr f p h (x := .box d off) hx k)
  | own d => exact CRel0.up (CRel0.ren hr f p h (x := .own d) hx k)
  | row d n => exact CRel0.up (CRel0.ren hr f p h (x := .row d n) hx k)
  | win d off n => exact CRel0.up (CRel0.ren hr f p h (x := .win d off n) hx k)
  | sub d s a n => exact CRel0.up (CRel0.ren hr f p h (x := .sub d s a n) hx k)
  | elt d s i off => exact CRel0.up (CRel0.ren hr f p h (x := .elt d s i off) hx k)
  | any => trivial
  | slc s tag n xs => exact CRel0.up (CRel0.ren hr f p h (x := .slc s tag n xs) hx k)
theorem ren0_id (x : SC) : x.ren0 (fun d => d) = x := by
  cases x <;> simp only [SC.ren0]
  rename_i s tag n xs
  rcases tag with _ | _ | t <;> rfl
theorem ren_id (x : SC) : x.ren (fun d => d) = x := by
  cases x with
  | clo c cs => simp only [SC.ren]; congr 1; exact (List.map_congr_left (fun y _ => ren0_id y)).trans (List.map_id _)
  | lit v => rfl
  | slc a b c d => exact ren0_id (.slc a b c d)
  | ref a => rfl
  | box a b => rfl
  | own a => rfl
  | row a b => rfl
  | win a b c => rfl
  | sub a b c d => rfl
  | elt a b c d => rfl
  | any => rfl
theorem CRel.env {r r' : Rd} (hr : r.le r') {g g' : Env} (p : Nat → Bool) (h : ∀ d, p d = true → g'.pos d = g.pos d ∧ g'.tk d = g.tk d) {v : Value} {x : SC} (hx : x.say p = true) (k : CRel r g v x) : CRel r' g' v x := by
  have := k.ren hr (fun d => d) p h hx
  rwa [ren_id] at this
theorem SC.say0_true (x : SC) : x.say0 (fun _ => true) = true := by
  cases x <;> simp only [SC.say0]
  rename_i s tag n xs
  rcases tag with _ | _ | t <;> rfl
theorem SC.say_true (x : SC) : x.say (fun _ => true) = true := by
  cases x with
  | clo f cs => exact List.all_eq_true.2 (fun y _ => SC.say0_true y)
  | lit v => exact SC.say0_true (.lit v)
  | slc a b c d => exact SC.say0_true (.slc a b c d)
  | ref a => exact SC.say0_true (.ref a)
  | box a b => exact SC.say0_true (.box a b)
  | own a => exact SC.say0_true (.own a)
  | row a b => exact SC.say0_true (.row a b)
  | win a b c => exact SC.say0_true (.win a b c)
  | sub a b c d => exact SC.say0_true (.sub a b c d)
  | elt a b c d => exact SC.say0_true (.elt a b c d)
  | any => rfl
theorem CRel.mono {r r' : Rd} (h : r.le r') {g : Env} {v : Value} {x : SC} (k : CRel r g v x) : CRel r' g v x := k.env h (fun _ => true) (fun _ _ => ⟨rfl, rfl⟩) x.say_true

/-! ### several cells -/
def CsRel (rd : Rd) (g : Env) (vs : Array Value) (cs : List SC) : Prop := vs.size = cs.length ∧ ∀ (j : Nat) (y : SC), cs[j]? = some y → ∃ u, vs[j]? = some u ∧ CRel rd g u y
/-- one result: a cell, or a struct or array -/
def FRel (rd : Rd) (g : Env) (v : Value) (x : Bool × List SC) : Prop :=
  if x.1 then ∃ vs, v = .agg vs ∧ CsRel rd g vs x.2 else ∃ y, x.2 = [y] ∧ CRel rd g v y
def VRel (rd : Rd) (g : Env) (v : Value) : SV → Prop
  | .c x => CRel rd g v x
  | .agg cs => ∃ vs, v = .agg vs ∧ CsRel rd g vs cs
  | .tup xs => ∃ vs : Array Value, v = .tuple vs ∧ vs.size = xs.length ∧ ∀ (j : Nat) (x : Bool × List SC), xs[j]? = some x → ∃ u, vs[j]? = some u ∧ FRel rd g u x
def SV.every (p : SC → Bool) : SV → Bool
  | .c x => p x
  | .agg cs => cs.all p
  | .tup vs => vs.all fun x => x.2.all p
def SV.map (m : SC → SC) : SV → SV
  | .c x => .c (m x)
  | .agg cs => .agg (cs.map m)
  | .tup vs => .tup (vs.map fun x => (x.1, x.2.map m))
theorem CsRel.imp {rd rd' : Rd} {g g' : Env} {p : SC → Bool} {m : SC → SC} (hp : ∀ v x, p x = true → CRel rd g v x → CRel rd' g' v (m x)) {vs : Array Value} {cs : List SC} (hc : cs.all p = true) (k : CsRel rd g vs cs) : CsRel rd' g' vs (cs.map m) := by
  refine ⟨by simpa using k.1, fun j y hy => ?_⟩
  rw [List.getElem?_map] at hy
  obtain ⟨y0, hy0, rfl⟩ := Option.map_eq_some_iff.1 hy
  obtain ⟨u, h1, h2⟩ := k.2 j y0 hy0
  exact ⟨u, h1, hp _ _ (List.all_eq_true.1 hc y0 (List.mem_of_getElem? hy0)) h2⟩
theorem VRel.imp {rd rd' : Rd} {g g' : Env} {p : SC → Bool} {m : SC → SC} (hp : ∀ v x, p x = true → CRel rd g v x → CRel rd' g' v (m x)) {v : Value} {x : SV} (hx : x.every p = true) (h : VRel rd g v x) : VRel rd' g' v (x.map m) := by
  cases x with
  | c x => exact hp _ _ hx h
  | agg cs => obtain ⟨vs, h1, h2⟩ := h; exact ⟨vs, h1, h2.imp hp hx⟩
  | tup vs =>
    obtain ⟨us, h1, h2, h3⟩ := h
    refine ⟨us, h1, by simpa using h2, fun j x hj => ?_⟩
    rw [List.getElem?_map] at hj
    obtain ⟨x0, hx0, rfl⟩ := Option.map_eq_some_iff.1 hj
    obtain ⟨u, h4, h5⟩ := h3 j x0 hx0
    refine ⟨u, h4, ?_⟩
    have hc := List.all_eq_true.1 hx x0 (List.mem_of_getElem? hx0)
    unfold FRel at *
    simp only
    split
    · rename_i hb; rw [if_pos hb] at h5; obtain ⟨vs, h6, h7⟩ := h5; exact ⟨vs, h6, h7.imp hp hc⟩
    · rename_i hb; rw [if_neg hb] at h5
      obtain ⟨y, h6, h7⟩ := h5
      rw [h6] at hc
      exact ⟨m y, by simp [h6], hp _ _ (by simpa using hc) h7⟩
theorem SV.map_id (x : SV) : x.map (fun y => y) = x := by
  cases x <;> simp [SV.map]
theorem VRel.imp1 {rd rd' : Rd} {g g' : Env} {p : SC → Bool} (hp : ∀ v x, p x = true → CRel rd g v x → CRel rd' g' v x) {v : Value} {x : SV} (hx : x.every p = true) (h : VRel rd g v x) : VRel rd' g' v x := by
  have := h.imp (m := fun y => y) hp hx
  rwa [SV.map_id] at this
theorem CsRel.imp1 {rd rd' : Rd} {g g' : Env} {p : SC → Bool} (hp : ∀ v x, p x = true → CRel rd g v x → CRel rd' g' v x) {vs : Array Value} {cs : List SC} (hc : cs.all p = true) (k : CsRel rd g vs cs) : CsRel rd' g' vs cs := by
  have := k.imp (m := fun y => y) hp hc
  rwa [List.map_id'] at this
theorem SV.every_true (x : SV) : x.every (fun _ => true) = true := by cases x <;> simp [SV.every]
theorem VRel.mono {r r' : Rd} (h : r.le r') {g : Env} {v : Value} {x : SV} (k : VRel r g v x) : VRel r' g v x := k.imp1 (p := fun _ => true) (fun _ _ _ k => k.mono h) x.every_true
theorem CsRel.mono {r r' : Rd} (h : r.le r') {g : Env} {vs : Array Value} {cs : List SC} (k : CsRel r g vs cs) : CsRel r' g vs cs := k.imp1 (p := fun _ => true) (fun _ _ _ k => k.mono h) (by simp)

/-! ### the state -/
inductive Res where
  | box (cs : List SC)
  | row (e s n : Nat) (xs : List (List SC))
  | spare (e s n : Nat)
def Res.map (m : SC → SC) : Res → Res
  | .box cs => .box (cs.map m)
  | r => r
def Res.every (p : SC → Bool) : Res → Bool
  | .box cs => cs.all p
  | _ => true
def Res.isBox : Res → Bool
  | .box _ => true
  | _ => false
abbrev Hp := List (Nat × Res)
structure St where
  tmps : List (Nat × SV)
  hp : Hp

def look {α : Type} : List (Nat × α) → Nat → Option α
  | [], _ => none
  | (k, x) :: l, n => if k = n then some x else look l n
def drop1 {α : Type} (l : List (Nat × α)) (n : Nat) : List (Nat × α) := l.filter fun p => p.1 != n
theorem look_drop1 {α : Type} (n : Nat) : ∀ (l : List (Nat × α)) (m : Nat), look (drop1 l n) m = if m = n then none else look l m
  | [], m => by simp [drop1, look]
  | (k, x) :: l, m => by
    have ih := look_drop1 n l m
    unfold drop1 at *
    simp only [List.filter_cons]
    by_cases hk : k = n
    · subst hk
      simp only [bne_self_eq_false, Bool.false_eq_true, if_false, ih, look]
      by_cases hm : m = k
      · simp [hm]
      · rw [if_neg hm, if_neg hm, if_neg (Ne.symm hm)]
    · simp only [bne_iff_ne, ne_eq, hk, not_false_eq_true, if_true, look, ih]
      by_cases hm : k = m
      · subst hm; simp [hk]
      · simp [hm]
theorem look_cons {α : Type} (n : Nat) (x : α) (l : List (Nat × α)) (m : Nat) : look ((n, x) :: l) m = if n = m then some x else look l m := rfl
theorem look_mem {α : Type} {l : List (Nat × α)} {t : Nat} {x : α} (h : look l t = some x) : (t, x) ∈ l := by
  induction l with
  | nil => simp [look] at h
  | cons p l ih =>
    obtain ⟨k, y⟩ := p
    rw [look_cons] at h
    split at h
    · rename_i hk; subst hk; cases h; simp
    · exact List.mem_cons_of_mem _ (ih h)
theorem look_map {α β : Type} (f : α → β) : ∀ (l : List (Nat × α)) (m : Nat), look (l.map fun p => (p.1, f p.2)) m = (look l m).map f
  | [], m => rfl
  | (k, x) :: l, m => by
    simp only [List.map_cons, look_cons]
    split
    · rfl
    · exact look_map f l m
/-- a name is given a value: in its place, or in front -/
def setL {α : Type} (n : Nat) (x : α) : List (Nat × α) → List (Nat × α)
  | [] => [(n, x)]
  | (k, y) :: l => if k = n then (n, x) :: l else (k, y) :: setL n x l
theorem look_setL {α : Type} (n : Nat) (x : α) : ∀ (l : List (Nat × α)) (m : Nat), look (setL n x l) m = if n = m then some x else look l m
  | [], m => rfl
  | (k, y) :: l, m => by
    simp only [setL]
    split
    · rename_i hk
      subst hk
      simp only [look_cons]
      split <;> rfl
    · rename_i hk
      simp only [look_cons, look_setL n x l m]
      by_cases h1 : k = m
      · subst h1; rw [if_pos rfl, if_pos rfl, if_neg (Ne.symm hk)]
      · rw [if_neg h1, if_neg h1]

def St.put (s : St) (d : Option Tmp) (v : SV) : St := match d with
  | some d => { s with tmps := setL d v s.tmps }
  | none => s
def St.setR (s : St) (d : Nat) (r : Res) : St := { s with hp := setL d r s.hp }
def St.lookB (s : St) (d : Nat) : Option (List SC) := match look s.hp d with
  | some (.box cs) => some cs
  | _ => none
theorem lookB_some {s : St} {d : Nat} {cs : List SC} (h : s.lookB d = some cs) : look s.hp d = some (.box cs) := by
  unfold St.lookB at h
  split at h
  · rename_i cs' hl; cases h; exact hl
  · cases h

/-- no cell of the row is frozen -/
def unfrozen (fz : Nat × Nat) (n : Nat) : Prop := ∀ j, j < n → ¬ (fz.1 ≤ j ∧ j < fz.2)
/-- the slice value owns the cells; a mark may lie behind its row -/
def _root_.Go.World.ownsRowM (w : World) (e : TypeId) (size : Nat) (v : Value) (n : Nat) (xs : List Value) : Prop :=
  xs.length = n * size ∧
  ((v = .slice none 0 0 ∧ n = 0) ∨
   ∃ g cap cur fz, v = .slice (some ⟨g, 0, none⟩) n cap ∧ w.heap[g]? = some (.cells cur e fz) ∧ unfrozen fz cur.size ∧ n ≤ cap ∧ cap ≤ maxLen ∧ cur.size = cap * size ∧ cur.toList.take (n * size) = xs)
theorem _root_.Go.World.ownsRow.m {w : World} {e : TypeId} {s n : Nat} {v : Value} {xs : List Value} (h : w.ownsRow 0 e s v n xs) : w.ownsRowM e s v n xs := by
  refine ⟨h.1, ?_⟩
  rcases h.2 with hn | ⟨g, cap, cur, hv, hb, hg, rest⟩
  · exact .inl hn
  · exact .inr ⟨g, cap, cur, (0, 0), hv, hg, fun j _ q => Nat.not_lt_zero _ q.2, rest⟩
theorem _root_.Go.World.ownsRowM.lt {w : World} {e : TypeId} {s n : Nat} {v : Value} {xs : List Value} (h : w.ownsRowM e s v n xs) (k : Nat) (hk : v.ownBlock = some k) : k < w.heap.size := by
  rcases h.2 with ⟨rfl, _⟩ | ⟨g, cap, cur, fz, rfl, hg, _⟩
  · simp [Value.ownBlock] at hk
  · simp [Value.ownBlock] at hk
    subst hk
    exact (Array.getElem?_eq_some_iff.1 hg).1
theorem _root_.Go.World.ownsRowM.cells {w : World} {e : TypeId} {s n : Nat} {v : Value} {xs : List Value} (h : w.ownsRowM e s v n xs) {g : Nat} (hg : v.ownBlock = some g) : ∀ j u, xs[j]? = some u → w.cell? ((⟨g, 0, none⟩ : Addr).add j) = some u := by
  intro j u hu
  rcases h.2 with ⟨rfl, _⟩ | ⟨g', cap, cur, fz, rfl, hgg, _, _, _, _, htake⟩
  · simp [Value.ownBlock] at hg
  · simp [Value.ownBlock] at hg
    subst hg
    have hadd : (⟨g', 0, none⟩ : Addr).add j = ⟨g', j, none⟩ := by unfold Addr.add; split <;> simp_all
    rw [hadd, cell_of_row w g' j cur e fz hgg]
    rw [← htake, List.getElem?_take] at hu
    split at hu
    · simpa using hu
    · cases hu
/-! ### what is written, what is held -/
def Foot (g : Env) (d : Nat) : Res → Nat → Nat → Prop
  | .box cs, b, o => b = (g.pos d).1 ∧ (g.pos d).2 ≤ o ∧ o < (g.pos d).2 + cs.length
  | .row _ _ _ _, b, _ => (g.tk d).1.ownBlock = some b
  | .spare _ s n, b, o => (g.tk d).2.ownBlock = some b ∧ n * s ≤ o
def InFoot (g : Env) (h : Hp) (b o : Nat) : Prop := ∃ d r, look h d = some r ∧ Foot g d r b o
def boxAt (rd : Rd) (g : Env) (w : World) (p : Nat × Nat) (cs : List SC) : Prop :=
  ∀ (j : Nat) (y : SC), cs[j]? = some y → ∃ u, w.cell? ⟨p.1, p.2 + j, none⟩ = some u ∧ w.frozen? ⟨p.1, p.2 + j, none⟩ = false ∧ CRel rd g u y
def Holds (rd : Rd) (g : Env) (w : World) (d : Nat) : Res → Prop
  | .box cs => boxAt rd g w (g.pos d) cs
  | .row e s n xs => ∃ us, w.ownsRow 0 e s (g.tk d).1 n us ∧ xs.length = n ∧ RowIs rd s us xs
  | .spare e s n => ∃ us, w.ownsRowM e s (g.tk d).2 n us
theorem foot_map (g : Env) (d : Nat) (m : SC → SC) (r : Res) : Foot g d (r.map m) = Foot g d r := by
  funext b o
  cases r <;> simp [Foot, Res.map]
theorem foot_env {g g' : Env} {d : Nat} (h : g'.pos d = g.pos d ∧ g'.tk d = g.tk d) (r : Res) : Foot g' d r = Foot g d r := by
  funext b o
  cases r <;> simp only [Foot, h.1, h.2]
theorem Holds.lt {rd : Rd} {g : Env} {w : World} {d : Nat} {r : Res} (h : Holds rd g w d r) {b o : Nat} (hf : Foot g d r b o) : b < w.heap.size := by
  cases r with
  | box cs =>
    obtain ⟨rfl, h2, h3⟩ := hf
    have hlt : o - (g.pos d).2 < cs.length := by omega
    obtain ⟨u, k1, _⟩ := h _ _ (List.getElem?_eq_getElem hlt)
    exact World.block_lt_of_cell? w _ k1
  | row e s n xs =>
    obtain ⟨us, h1, _⟩ := h
    exact (h1.lt b hf).2
  | spare e s n =>
    obtain ⟨us, h1⟩ := h
    exact h1.lt b hf.1

/-- blocks alike, but for cells that may be written -/
def Alike1 (m : Nat → Prop) (o o' : Option Obj) : Prop :=
  o' = o ∨ ∃ c c' e f, o = some (.cells c e f) ∧ o' = some (.cells c' e f) ∧ c'.size = c.size ∧ ∀ j, ¬ m j → c'[j]? = c[j]?
structure Keep (w0 : World) (may : Nat → Nat → Prop) (w : World) : Prop where
  os : w.os = w0.os
  tape : w.tape = w0.tape
  output : w.output = w0.output
  size : w0.heap.size ≤ w.heap.size
  block : ∀ b, b < w0.heap.size → Alike1 (may b) w0.heap[b]? w.heap[b]?
theorem Alike1.trans {m m' : Nat → Prop} {o1 o2 o3 : Option Obj} (h : Alike1 m o1 o2) (k : Alike1 m' o2 o3) (hm : ∀ j, m' j → m j) : Alike1 m o1 o3 := by
  rcases h with rfl | ⟨c, c', e, f, rfl, rfl, h3, h4⟩
  · rcases k with rfl | ⟨c, c', e, f, rfl, rfl, h3, h4⟩
    · exact .inl rfl
    · exact .inr ⟨c, c', e, f, rfl, rfl, h3, fun j hj => h4 j fun h => hj (hm j h)⟩
  · rcases k with rfl | ⟨d, d', e', f', h1, rfl, h5, h6⟩
    · exact .inr ⟨c, c', e, f, rfl, rfl, h3, h4⟩
    · cases h1
      exact .inr ⟨c, d', e, f, rfl, rfl, h5.trans h3, fun j hj => (h6 j fun h => hj (hm j h)).trans (h4 j hj)⟩
theorem Keep.refl (w : World) (may : Nat → Nat → Prop) : Keep w may w := ⟨rfl, rfl, rfl, Nat.le_refl _, fun _ _ => .inl rfl⟩
theorem Keep.trans {w0 w w' : World} {may may' : Nat → Nat → Prop} (h : Keep w0 may w) (k : Keep w may' w') (hm : ∀ b o, b < w0.heap.size → may' b o → may b o) : Keep w0 may w' :=
  ⟨k.os.trans h.os, k.tape.trans h.tape, k.output.trans h.output, Nat.le_trans h.size k.size, fun b hb => (h.block b hb).trans (k.block b (Nat.lt_of_lt_of_le hb h.size)) fun j => hm b j hb⟩
theorem Keep.weak {w w' : World} {may may' : Nat → Nat → Prop} (h : Keep w may w') (hm : ∀ b o, may b o → may' b o) : Keep w may' w' := (Keep.refl w may').trans h (fun b o _ => hm b o)
theorem Keep.of_ext {w w' : World} (h : Ext w w') : Keep w (fun _ _ => False) w' := by
  have hb := h.below
  exact ⟨hb.os, hb.tape, hb.output, hb.size, fun b hb' => .inl (hb.block b hb')⟩
theorem Keep.ext {w w' : World} (h : Keep w (fun _ _ => False) w') : Ext w w' := by
  refine Ext.of_below ⟨h.os, h.tape, h.output, h.size, fun b hb => ?_⟩
  rcases h.block b hb with e | ⟨c, c', e, f, h1, h2, h3, h4⟩
  · exact e
  · rw [h1, h2]
    congr 2
    exact Array.ext_getElem? (fun j => h4 j (by simp))
theorem Keep.frozen {w w' : World} {may : Nat → Nat → Prop} (h : Keep w may w') {b o : Nat} (hb : b < w.heap.size) : w'.frozen? ⟨b, o, none⟩ = w.frozen? ⟨b, o, none⟩ := by
  unfold World.frozen?
  simp only
  rcases h.block b hb with e | ⟨c, c', e, f, h1, h2, h3, h4⟩
  · rw [e]
  · rw [h1, h2]
theorem Keep.alloc (w : World) (o : Obj) (may : Nat → Nat → Prop) : Keep w may (w.alloc o) :=
  ⟨rfl, rfl, rfl, by simp, fun b hb => .inl (heap_alloc_old w o hb)⟩
theorem Keep.setCell (w : World) (b o : Nat) (v : Value) : Keep w (fun b' o' => b' = b ∧ o' = o) (w.setCell ⟨b, o, none⟩ v) := by
  refine ⟨rfl, rfl, rfl, by simp [World.setCell], fun b' hb' => ?_⟩
  by_cases hbb : b' = b
  · subst hbb
    simp only [World.setCell, Array.getElem?_modify, if_true]
    cases hx : w.heap[b']? with
    | none => exact .inl (by simp)
    | some x =>
      cases x with
      | cells c e f => exact .inr ⟨c, c.setIfInBounds o v, e, f, rfl, by simp, by simp, fun j hj => by simp at hj; simp [Ne.symm hj]⟩
      | _ => exact .inl (by simp)
  · refine .inl ?_
    simp only [World.setCell, Array.getElem?_modify]
    rw [if_neg (Ne.symm hbb)]
theorem Keep.setCells (b : Nat) : ∀ (vs : List Value) (o : Nat) (w : World), Keep w (fun b' o' => b' = b ∧ o ≤ o' ∧ o' < o + vs.length) (w.setCells b o vs)
  | [], _, w => Keep.refl _ _
  | v :: r, o, w => by
    have h1 := Keep.setCell w b o v
    have h2 := Keep.setCells b r (o + 1) (w.setCell ⟨b, o, none⟩ v)
    have h1' : Keep w (fun b' o' => b' = b ∧ o ≤ o' ∧ o' < o + (v :: r).length) (w.setCell ⟨b, o, none⟩ v) :=
      h1.weak (fun b' o' h => ⟨h.1, by simp only [List.length_cons]; omega⟩)
    exact h1'.trans h2 (fun b' o' _ h => ⟨h.1, by simp only [List.length_cons]; omega⟩)
theorem Keep.cell {w w' : World} {may : Nat → Nat → Prop} (h : Keep w may w') {b o : Nat} {v : Value} (hc : w.cell? ⟨b, o, none⟩ = some v) (hm : ¬ may b o) : w'.cell? ⟨b, o, none⟩ = some v := by
  have hlt := World.block_lt_of_cell? w _ hc
  unfold World.cell? at hc ⊢
  simp only at hc hlt ⊢
  rcases h.block b hlt with e | ⟨c, c', e, f, h1, h2, h3, h4⟩
  · rw [e]; exact hc
  · rw [h1] at hc
    rw [h2]
    simp only [Option.isSome_none, Bool.false_eq_true, if_false] at hc ⊢
    rw [h4 o hm]
    exact hc
theorem Keep.whole {w w' : World} {may : Nat → Nat → Prop} (h : Keep w may w') {b : Nat} (hb : b < w.heap.size) (hm : ∀ o, ¬ may b o) : w'.heap[b]? = w.heap[b]? := by
  rcases h.block b hb with e | ⟨c, c', e, f, h1, h2, h3, h4⟩
  · exact e
  · rw [h1, h2]
    congr 2
    exact Array.ext_getElem? (fun j => h4 j (hm j))

/-- where a call began: its world, what it may write there, and what it may rely on -/
structure Ctx where
  w0 : World
  may : Nat → Nat → Prop
  rd0 : Rd
  pos0 : Nat → Nat × Nat
  gh : Nat → Option Value
  ok : ∀ b o v, rd0 b o = some v → w0.cell? ⟨b, o, none⟩ = some v ∧ ¬ may b o

open Classical in
noncomputable def rdOf (K : Ctx) (g : Env) (h : Hp) (w : World) : Rd := fun b o => if InFoot g h b o then none else if b < K.w0.heap.size ∧ ¬ K.may b o then K.rd0 b o else w.cell? ⟨b, o, none⟩

structure HG (K : Ctx) (g : Env) (w : World) (h : Hp) : Prop where
  keep : Keep K.w0 K.may w
  holds : ∀ d r, look h d = some r → Holds (rdOf K g h w) g w d r
  may : ∀ b o, InFoot g h b o → b < K.w0.heap.size → K.may b o
  dis : ∀ d d' r r' b o, d ≠ d' → look h d = some r → look h d' = some r' → Foot g d r b o → ¬ Foot g d' r' b o
  fix : ∀ d cs, 1000000 ≤ d → look h d = some (.box cs) → g.pos d = K.pos0 d
  new : ∀ d r, look h d = some r → r.isBox = false → ∀ b o, Foot g d r b o → K.w0.heap.size ≤ b ∨ K.may b o

/-- a slot of the run; from 2000000 on, a slot of the caller that waits -/
def slotAt (K : Ctx) (a : Act) (t : Nat) : Option Value := if t < 2000000 then a.tmps[t]? else K.gh (t - 2000000)
structure RG (K : Ctx) (g : Env) (n : Nat) (a : Act) (w : World) (s : St) : Prop where
  defers : a.defers = []
  size : a.tmps.size = n
  few : n ≤ 2000000
  hg : HG K g w s.hp
  tmps : ∀ t v, look s.tmps t = some v → ∃ u, slotAt K a t = some u ∧ VRel (rdOf K g s.hp w) g u v
def R (K : Ctx) (n : Nat) (a : Act) (w : World) (s : St) : Prop := ∃ g, RG K g n a w s

theorem rdOf_le {K : Ctx} (g : Env) (h : Hp) {w : World} (hk : Keep K.w0 K.may w) : ∀ b o v, rdOf K g h w b o = some v → w.cell? ⟨b, o, none⟩ = some v := by
  intro b o v hv
  unfold rdOf at hv
  split at hv
  · cases hv
  · split at hv
    · exact hk.cell (K.ok b o v hv).1 (K.ok b o v hv).2
    · exact hv
theorem rdOf_none {K : Ctx} {g : Env} {h : Hp} {w : World} {b o : Nat} (hf : InFoot g h b o) : rdOf K g h w b o = none := by
  unfold rdOf; rw [if_pos hf]

/-! ### the step -/
section
variable {K : Ctx} {g g' : Env} {w w' : World} {h h' : Hp}
theorem rd_step (k : HG K g w h) (t : Nat → Bool) (he : ∀ d r, t d = false → look h d = some r → g'.pos d = g.pos d ∧ g'.tk d = g.tk d)
    (hl : ∀ d r', t d = false → look h' d = some r' → ∃ r m, look h d = some r ∧ r' = r.map m)
    (hk : Keep w (fun b o => ∃ d r, t d = true ∧ look h d = some r ∧ Foot g d r b o) w')
    (hf : ∀ d r b o, t d = true → look h' d = some r → Foot g' d r b o → (∃ e r0, t e = true ∧ look h e = some r0 ∧ Foot g e r0 b o) ∨ w.heap.size ≤ b) : (rdOf K g h w).le (rdOf K g' h' w') := by
  intro b o v hv
  have hc := rdOf_le g h k.keep b o v hv
  have hlt := World.block_lt_of_cell? w _ hc
  unfold rdOf at hv ⊢
  split at hv
  · cases hv
  · rename_i hx
    rw [if_neg]
    · split at hv
      · rename_i hb; rw [if_pos hb]; exact hv
      · rename_i hb
        rw [if_neg hb]
        exact hk.cell hc (fun ⟨d, r, _, h1, h2⟩ => hx ⟨d, r, h1, h2⟩)
    · rintro ⟨d, r, h1, h2⟩
      cases ht : t d with
      | true =>
        rcases hf d r b o ht h1 h2 with ⟨e, r0, _, h3, h4⟩ | h3
        · exact hx ⟨e, r0, h3, h4⟩
        · simp only at hlt; omega
      | false =>
        obtain ⟨r0, m, h3, rfl⟩ := hl d r ht h1
        rw [foot_map, foot_env (he d r0 ht h3)] at h2
        exact hx ⟨d, r0, h3, h2⟩

theorem HG.step (k : HG K g w h) (t : Nat → Bool) (m : SC → SC) (ok : SC → Bool) (he : ∀ d r, t d = false → look h d = some r → g'.pos d = g.pos d ∧ g'.tk d = g.tk d)
    (hl : ∀ d r', t d = false → look h' d = some r' → ∃ r, look h d = some r ∧ r' = r.map m ∧ r.every ok = true)
    (hk : Keep w (fun b o => ∃ d r, t d = true ∧ look h d = some r ∧ Foot g d r b o) w')
    (hf : ∀ d r b o, t d = true → look h' d = some r → Foot g' d r b o → (∃ e r0, t e = true ∧ look h e = some r0 ∧ Foot g e r0 b o) ∨ w.heap.size ≤ b)
    (hd : ∀ d d' r r' b o, t d = true → t d' = true → d ≠ d' → look h' d = some r → look h' d' = some r' → Foot g' d r b o → ¬ Foot g' d' r' b o)
    (hm : ∀ u x, ok x = true → CRel (rdOf K g h w) g u x → CRel (rdOf K g' h' w') g' u (m x))
    (hh : ∀ d r, t d = true → look h' d = some r → Holds (rdOf K g' h' w') g' w' d r)
    (hfix : ∀ d cs, t d = true → 1000000 ≤ d → look h' d = some (.box cs) → g'.pos d = K.pos0 d)
    (hnew : ∀ d r, t d = true → look h' d = some r → r.isBox = false → ∀ b o, Foot g' d r b o → K.w0.heap.size ≤ b ∨ K.may b o) : HG K g' w' h' := by
  have hl' : ∀ d r', t d = false → look h' d = some r' → ∃ r m, look h d = some r ∧ r' = r.map m := fun d r' h1 h2 => let ⟨r, h3, h4, _⟩ := hl d r' h1 h2; ⟨r, m, h3, h4⟩
  have hle := rd_step (h' := h') k t he hl' hk hf
  -- an untouched name's footprint is not written
  have hfree : ∀ d r b o, t d = false → look h d = some r → Foot g d r b o → ¬ ∃ e r', t e = true ∧ look h e = some r' ∧ Foot g e r' b o := by
    rintro d r b o ht h1 h2 ⟨e, r', h3, h4, h5⟩
    exact k.dis d e r r' b o (fun hh => by subst hh; rw [ht] at h3; cases h3) h1 h4 h2 h5
  refine ⟨k.keep.trans hk (fun b o hb ⟨d, r, _, h1, h2⟩ => k.may b o ⟨d, r, h1, h2⟩ hb), fun d r' hd' => ?_, ?_, ?_, ?_, ?_⟩
  · cases ht : t d with
    | true => exact hh d r' ht hd'
    | false =>
      obtain ⟨r, h1, rfl, h2⟩ := hl d r' ht hd'
      have henv := he d r ht h1
      have hold := k.holds d r h1
      cases r with
      | box cs =>
        intro j y hy
        rw [List.getElem?_map] at hy
        obtain ⟨y0, hy0, rfl⟩ := Option.map_eq_some_iff.1 hy
        obtain ⟨u, k1, k2, k3⟩ := hold j y0 hy0
        have hj := (List.getElem?_eq_some_iff.1 hy0).1
        rw [henv.1]
        refine ⟨u, hk.cell k1 (hfree d _ _ _ ht h1 ⟨rfl, by omega, by omega⟩), by rw [hk.frozen (World.block_lt_of_cell? w _ k1)]; exact k2, hm u y0 (List.all_eq_true.1 h2 y0 (List.mem_of_getElem? hy0)) k3⟩
      | row e s n xs =>
        obtain ⟨us, h3, h4, h4'⟩ := hold
        refine ⟨us, ?_, h4, h4'.mono hle⟩
        rw [henv.2]
        refine ⟨h3.1, ?_⟩
        rcases h3.2 with hn | ⟨gb, cap, cur, hv, hb, hgg, rest⟩
        · exact .inl hn
        · refine .inr ⟨gb, cap, cur, hv, hb, ?_, rest⟩
          rw [hk.whole (Array.getElem?_eq_some_iff.1 hgg).1 (fun o => hfree d _ gb o ht h1 (by simp only [Foot]; rw [hv]; rfl))]
          exact hgg
      | spare e s n =>
        obtain ⟨us, h3⟩ := hold
        simp only [Res.map, Holds, henv.2]
        rcases h3.2 with ⟨hn, h0⟩ | ⟨gb, cap, cur, fz, hv, hgg, huf, r1, r2, r3, r4⟩
        · exact ⟨us, h3.1, .inl ⟨hn, h0⟩⟩
        · rcases hk.block gb (Array.getElem?_eq_some_iff.1 hgg).1 with e' | ⟨c, c', e', f, q1, q2, q3, q4⟩
          · exact ⟨us, h3.1, .inr ⟨gb, cap, cur, fz, hv, by rw [e']; exact hgg, huf, r1, r2, r3, r4⟩⟩
          · rw [hgg] at q1
            cases q1
            refine ⟨c'.toList.take (n * s), ?_, .inr ⟨gb, cap, c', _, hv, q2, by rw [q3]; exact huf, r1, r2, by rw [q3]; exact r3, rfl⟩⟩
            rw [List.length_take, Array.length_toList, q3, r3, Nat.min_eq_left (Nat.mul_le_mul_right _ r1)]
  · rintro b o ⟨d, r, h1, h2⟩ hb
    cases ht : t d with
    | true =>
      rcases hf d r b o ht h1 h2 with ⟨e, r0, _, h3, h4⟩ | h3
      · exact k.may b o ⟨e, r0, h3, h4⟩ hb
      · have := k.keep.size; omega
    | false =>
      obtain ⟨r0, h3, rfl, _⟩ := hl d r ht h1
      rw [foot_map, foot_env (he d r0 ht h3)] at h2
      exact k.may b o ⟨d, r0, h3, h2⟩ hb
  · intro d d' r r' b o hne h1 h2 h3 h4
    -- a touched name and an untouched one
    have mixed : ∀ d d' r r', t d = true → t d' = false → look h' d = some r → look h' d' = some r' → Foot g' d r b o → ¬ Foot g' d' r' b o := by
      intro d d' r r' ht ht' h1 h2 h3 h4
      obtain ⟨r0, h5, rfl, _⟩ := hl d' r' ht' h2
      rw [foot_map, foot_env (he d' r0 ht' h5)] at h4
      rcases hf d r b o ht h1 h3 with h6 | h6
      · exact hfree d' r0 b o ht' h5 h4 h6
      · have := (k.holds d' r0 h5).lt h4; omega
    cases ht : t d with
    | true =>
      cases ht' : t d' with
      | true => exact hd d d' r r' b o ht ht' hne h1 h2 h3 h4
      | false => exact mixed d d' r r' ht ht' h1 h2 h3 h4
    | false =>
      cases ht' : t d' with
      | true => exact mixed d' d r' r ht' ht h2 h1 h4 h3
      | false =>
        obtain ⟨r0, h5, rfl, _⟩ := hl d r ht h1
        obtain ⟨r1, h6, rfl, _⟩ := hl d' r' ht' h2
        rw [foot_map, foot_env (he d r0 ht h5)] at h3
        rw [foot_map, foot_env (he d' r1 ht' h6)] at h4
        exact k.dis d d' r0 r1 b o hne h5 h6 h3 h4
  · intro d cs hd6 hl6
    cases ht : t d with
    | true => exact hfix d cs ht hd6 hl6
    | false =>
      obtain ⟨r0, h5, h6, _⟩ := hl d _ ht hl6
      cases r0 with
      | box cs0 => rw [(he d _ ht h5).1]; exact k.fix d cs0 hd6 h5
      | row e s n xs => cases h6
      | spare e s n => cases h6
  · intro d r hd hb b o hf'
    cases ht : t d with
    | true => exact hnew d r ht hd hb b o hf'
    | false =>
      obtain ⟨r0, h5, rfl, _⟩ := hl d r ht hd
      rw [foot_map, foot_env (he d r0 ht h5)] at hf'
      exact k.new d r0 h5 (by cases r0 <;> simp_all [Res.isBox, Res.map]) b o hf'

/-- a reader that sees all new memory outside a footprint -/
def SeesX (w : World) (may : Nat → Nat → Prop) (rd : Rd) (w' : World) (ex : Nat → Nat → Prop) : Prop := ∀ b o u, (w.heap.size ≤ b ∨ may b o) → ¬ ex b o → w'.cell? ⟨b, o, none⟩ = some u → rd b o = some u
def Sees (w : World) (rd : Rd) (w' : World) : Prop := ∀ b o u, w.heap.size ≤ b → w'.cell? ⟨b, o, none⟩ = some u → rd b o = some u
theorem rdOf_sees (k : HG K g w h) {may : Nat → Nat → Prop} (hm : ∀ b o, may b o → b < K.w0.heap.size → K.may b o) : SeesX w may (rdOf K g' h' w') w' (InFoot g' h') := by
  intro b o u hb hx hc
  unfold rdOf
  rw [if_neg hx, if_neg]
  · exact hc
  · rintro ⟨h1, h2⟩
    rcases hb with hb | hb
    · have := k.keep.size; omega
    · exact h2 (hm b o hb h1)
end
end Go.Proofs.Ytohfnlkjdjmipaa
