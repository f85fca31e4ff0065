/-
  SHADOWS: values without addresses that stand for the values of a run. A slice stands as the list of its elements (each a list of cells), a pointer to a variable of the call's own as the variable's name. The relation between a run's world and its shadow.
-/
import Derived.Test.YtohhaibbbnobpaaMono
import Derived.Laws.AppendOwn
namespace Go.Proofs.Ytohhaibbbnobpaa
open Go.RowKit

inductive SC where
  | lit (v : Value)
  | slc (s tag : Nat) (xs : List (List SC))
  | ref (cs : List SC)
  | box (d off : Nat)
  | bsl (d off s n c : Nat)

inductive SV where
  | c (x : SC)
  | agg (cs : List SC)
  | tup (vs : List (Bool × List SC))

abbrev Rd := Nat → Nat → Option Value
def Rd.le (r r' : Rd) : Prop := ∀ b o v, r b o = some v → r' b o = some v
theorem Rd.le.refl (r : Rd) : r.le r := fun _ _ _ h => h
theorem Rd.le.trans {r r' r'' : Rd} (h : r.le r') (k : r'.le r'') : r.le r'' := fun b o v x => k b o v (h b o v x)

/-- memory that is never written again holds what the shadow says -/
inductive IRel (rd : Rd) : Value → SC → Prop
  | lit (v : Value) : IRel rd v (.lit v)
  | nil (s : Nat) (a : Option Addr) (c : Nat) (hm : c ≤ maxLen) : IRel rd (.slice a 0 c) (.slc s 0 [])
  | slc (b o n c s : Nat) (xs : List (List SC)) (u : Nat → Nat → Value) (hn : xs.length = n) (hc : n ≤ c) (hm : c ≤ maxLen) (hs : ∀ x ∈ xs, x.length = s)
      (hr : ∀ i x j y, xs[i]? = some x → x[j]? = some y → rd b (o + i * s + j) = some (u i j))
      (hu : ∀ i x j y, xs[i]? = some x → x[j]? = some y → IRel rd (u i j) y) : IRel rd (.slice (some ⟨b, o, none⟩) n c) (.slc s 0 xs)
  | ref (b o : Nat) (cs : List SC) (u : Nat → Value) (hr : ∀ j y, cs[j]? = some y → rd b (o + j) = some (u j))
      (hu : ∀ j y, cs[j]? = some y → IRel rd (u j) y) : IRel rd (.pointer (some ⟨b, o, none⟩)) (.ref cs)

theorem IRel.mono {r r' : Rd} (h : r.le r') {v : Value} {x : SC} (k : IRel r v x) : IRel r' v x := by
  induction k with
  | lit v => exact .lit v
  | nil s a c hm => exact .nil s a c hm
  | slc b o n c s xs u hn hc hm hs hr _ ih => exact .slc b o n c s xs u hn hc hm hs (fun i x j y hx hy => h _ _ _ (hr i x j y hx hy)) (fun i x j y hx hy => ih i x j y hx hy)
  | ref b o cs u hr _ ih => exact .ref b o cs u (fun j y hy => h _ _ _ (hr j y hy)) (fun j y hy => ih j y hy)

/-- where the call's own variables lie; the rows that it may append to -/
structure Env where
  pos : Nat → Nat × Nat
  tk : Nat → Value

def vlen : Value → Nat
  | .slice _ n _ => n
  | _ => 0

/-- the tag of a slice: 0 nothing · 1 no room behind it · t + 2 the row t, if of its length -/
def Tag (g : Env) (v : Value) (n : Nat) : Nat → Prop
  | 0 => True
  | 1 => v = .slice none 0 0 ∨ ∃ a, v = .slice (some a) n n
  | t + 2 => n ≤ vlen (g.tk t) ∧ (n = vlen (g.tk t) → v = g.tk t)

def CRel (rd : Rd) (g : Env) (v : Value) : SC → Prop
  | .box d off => v = .pointer (some ⟨(g.pos d).1, (g.pos d).2 + off, none⟩)
  | .bsl d off _ n c => v = .slice (some ⟨(g.pos d).1, (g.pos d).2 + off, none⟩) n c ∧ n ≤ c ∧ c ≤ maxLen
  | .slc s tag xs => IRel rd v (.slc s 0 xs) ∧ Tag g v xs.length tag
  | .lit u => IRel rd v (.lit u)
  | .ref cs => IRel rd v (.ref cs)

theorem IRel.c {rd : Rd} {g : Env} {v : Value} {x : SC} (h : IRel rd v x) : CRel rd g v x := by
  cases h with
  | lit v => exact .lit v
  | nil s a c hm => exact ⟨.nil s a c hm, trivial⟩
  | slc b o n c s xs u hn hc hm hs hr hu => exact ⟨.slc b o n c s xs u hn hc hm hs hr hu, trivial⟩
  | ref b o cs u hr hu => exact .ref b o cs u hr hu
theorem CRel.mono {r r' : Rd} (h : r.le r') {g : Env} {v : Value} {x : SC} (k : CRel r g v x) : CRel r' g v x := by
  cases x <;> simp only [CRel] at *
  case lit => exact k.mono h
  case slc => exact ⟨k.1.mono h, k.2⟩
  case ref => exact k.mono h
  case box => exact k
  case bsl => exact k

def CsRel (rd : Rd) (g : Env) (vs : Array Value) (cs : List SC) : Prop := vs.size = cs.length ∧ ∀ (j : Nat) (y : SC), cs[j]? = some y → ∃ u, vs[j]? = some u ∧ CRel rd g u y
theorem CsRel.mono {r r' : Rd} (h : r.le r') {g : Env} {vs : Array Value} {cs : List SC} (k : CsRel r g vs cs) : CsRel r' g vs cs :=
  ⟨k.1, fun j y hy => let ⟨u, h1, h2⟩ := k.2 j y hy; ⟨u, h1, h2.mono h⟩⟩

/-- one result: a cell, or a struct or array -/
def FRel (rd : Rd) (g : Env) (v : Value) (x : Bool × List SC) : Prop :=
  if x.1 then ∃ vs, v = .agg vs ∧ CsRel rd g vs x.2 else ∃ y, x.2 = [y] ∧ CRel rd g v y
theorem FRel.mono {r r' : Rd} (h : r.le r') {g : Env} {v : Value} {x : Bool × List SC} (k : FRel r g v x) : FRel r' g v x := by
  unfold FRel at *
  split
  · rename_i hx; rw [if_pos hx] at k; obtain ⟨vs, h1, h2⟩ := k; exact ⟨vs, h1, h2.mono h⟩
  · rename_i hx; rw [if_neg hx] at k; obtain ⟨y, h1, h2⟩ := k; exact ⟨y, h1, h2.mono h⟩

def VRel (rd : Rd) (g : Env) (v : Value) : SV → Prop
  | .c x => CRel rd g v x
  | .agg cs => ∃ vs, v = .agg vs ∧ CsRel rd g vs cs
  | .tup xs => ∃ vs : Array Value, v = .tuple vs ∧ vs.size = xs.length ∧ ∀ (j : Nat) (x : Bool × List SC), xs[j]? = some x → ∃ u, vs[j]? = some u ∧ FRel rd g u x
theorem VRel.mono {r r' : Rd} (h : r.le r') {g : Env} {v : Value} {x : SV} (k : VRel r g v x) : VRel r' g v x := by
  cases x <;> simp only [VRel] at *
  case c => exact k.mono h
  case agg => obtain ⟨vs, h1, h2⟩ := k; exact ⟨vs, h1, h2.mono h⟩
  case tup => obtain ⟨vs, h1, h2, h3⟩ := k; exact ⟨vs, h1, h2, fun j x hx => let ⟨u, a, b⟩ := h3 j x hx; ⟨u, a, b.mono h⟩⟩

/-! ### a change of the names -/
def SC.all (d : Nat) : SC → Bool
  | .box e _ => e != d
  | .bsl e _ _ _ _ => e != d
  | _ => true
def SC.okTok (t : Nat) : SC → Bool
  | .slc _ tag _ => tag != t + 2
  | _ => true
def SV.every (p : SC → Bool) : SV → Bool
  | .c x => p x
  | .agg cs => cs.all p
  | .tup vs => vs.all fun x => x.2.all p

def Env.setPos (g : Env) (d : Nat) (p : Nat × Nat) : Env := { g with pos := fun e => if e = d then p else g.pos e }
def Env.setTk (g : Env) (t : Nat) (v : Value) : Env := { g with tk := fun e => if e = t then v else g.tk e }

theorem Tag.setPos {g : Env} {v : Value} {n tag d : Nat} {p : Nat × Nat} (h : Tag g v n tag) : Tag (g.setPos d p) v n tag := by
  rcases tag with _ | _ | t <;> exact h
theorem Tag.setTk {g : Env} {v u : Value} {n tag t : Nat} (h : Tag g v n tag) (hx : (tag != t + 2) = true) : Tag (g.setTk t u) v n tag := by
  rcases tag with _ | _ | t'
  · exact h
  · exact h
  · have hne : t' ≠ t := by simpa using hx
    simp only [Tag, Env.setTk, hne, if_false] at *
    exact h
theorem CRel.setPos {rd : Rd} {g : Env} {v : Value} {x : SC} {d : Nat} {p : Nat × Nat} (h : CRel rd g v x) (hx : x.all d = true) : CRel rd (g.setPos d p) v x := by
  cases x <;> simp only [CRel] at *
  case lit => exact h
  case slc => exact ⟨h.1, h.2.setPos⟩
  case ref => exact h
  case box e off =>
    have : e ≠ d := by simpa [SC.all] using hx
    simp only [Env.setPos, this, if_false]; exact h
  case bsl e off s n c =>
    have : e ≠ d := by simpa [SC.all] using hx
    simp only [Env.setPos, this, if_false]; exact h
theorem CRel.setTk {rd : Rd} {g : Env} {v : Value} {x : SC} {t : Nat} {u : Value} (h : CRel rd g v x) (hx : x.okTok t = true) : CRel rd (g.setTk t u) v x := by
  cases x <;> simp only [CRel] at *
  case lit => exact h
  case slc => exact ⟨h.1, h.2.setTk hx⟩
  case ref => exact h
  case box => exact h
  case bsl => exact h

/-- whatever holds of cells holds of values -/
theorem VRel.imp {rd rd' : Rd} {g g' : Env} {p : SC → Bool} (hp : ∀ v x, p x = true → CRel rd g v x → CRel rd' g' v x) {v : Value} {x : SV} (h : VRel rd g v x) (hx : x.every p = true) : VRel rd' g' v x := by
  have cs : ∀ (vs : Array Value) (cs : List SC), cs.all p = true → CsRel rd g vs cs → CsRel rd' g' vs cs := fun vs cs hc k =>
    ⟨k.1, fun j y hy => let ⟨u, h1, h2⟩ := k.2 j y hy; ⟨u, h1, hp _ _ (List.all_eq_true.1 hc y (List.mem_of_getElem? hy)) h2⟩⟩
  cases x <;> simp only [VRel, SV.every] at *
  case c => exact hp _ _ hx h
  case agg => obtain ⟨vs, h1, h2⟩ := h; exact ⟨vs, h1, cs _ _ hx h2⟩
  case tup =>
    obtain ⟨vs, h1, h2, h3⟩ := h
    refine ⟨vs, h1, h2, fun j x hj => ?_⟩
    obtain ⟨u, h4, h5⟩ := h3 j x hj
    refine ⟨u, h4, ?_⟩
    have hc := List.all_eq_true.1 hx x (List.mem_of_getElem? hj)
    unfold FRel at *
    split
    · rename_i hx; rw [if_pos hx] at h5; obtain ⟨vs, h1, h2⟩ := h5; exact ⟨vs, h1, cs _ _ hc h2⟩
    · rename_i hx; rw [if_neg hx] at h5
      obtain ⟨y, h1, h2⟩ := h5
      rw [h1] at hc
      exact ⟨y, h1, hp _ _ (by simpa using hc) h2⟩

/-! ### the state -/
structure Hp where
  boxes : List (Nat × List SC)
  toks : List (Nat × (Nat × Nat × List (List SC)))
structure St where
  tmps : List (Nat × SV)
  hp : Hp

def look {α : Type} : List (Nat × α) → Nat → Option α
  | [], _ => none
  | (k, x) :: l, n => if k = n then some x else look l n
def drop1 {α : Type} (l : List (Nat × α)) (n : Nat) : List (Nat × α) := l.filter fun p => p.1 != n

theorem look_drop1 {α : Type} (n : Nat) : ∀ (l : List (Nat × α)) (m : Nat), look (drop1 l n) m = if m = n then none else look l m
  | [], m => by simp [drop1, look]
  | (k, x) :: l, m => by
    have ih := look_drop1 n l m
    unfold drop1 at *
    simp only [List.filter_cons]
    by_cases hk : k = n
    · subst hk
      simp only [bne_self_eq_false, Bool.false_eq_true, if_false, ih, look]
      by_cases hm : m = k
      · simp [hm]
      · rw [if_neg hm, if_neg hm, if_neg (Ne.symm hm)]
    · simp only [bne_iff_ne, ne_eq, hk, not_false_eq_true, if_true, look, ih]
      by_cases hm : k = m
      · subst hm; simp [hk]
      · simp [hm]
theorem look_cons {α : Type} (n : Nat) (x : α) (l : List (Nat × α)) (m : Nat) : look ((n, x) :: l) m = if n = m then some x else look l m := rfl

def St.put (s : St) (d : Option Tmp) (v : SV) : St := match d with
  | some d => { s with tmps := (d, v) :: drop1 s.tmps d }
  | none => s
def St.unput (s : St) (d : Option Tmp) : St := match d with
  | some d => { s with tmps := drop1 s.tmps d }
  | none => s

/-- the cells that the call may write -/
def Ex (g : Env) (h : Hp) (b o : Nat) : Prop :=
  (∃ d cs, look h.boxes d = some cs ∧ b = (g.pos d).1 ∧ (g.pos d).2 ≤ o ∧ o < (g.pos d).2 + cs.length) ∨
  (∃ t e s xs a c, look h.toks t = some (e, s, xs) ∧ g.tk t = .slice (some a) xs.length c ∧ b = a.block ∧ xs.length * s ≤ o)

/-- blocks alike, but for cells that may be written -/
def Alike1 (m : Nat → Prop) (o o' : Option Obj) : Prop :=
  o' = o ∨ ∃ c c' e f, o = some (.cells c e f) ∧ o' = some (.cells c' e f) ∧ c'.size = c.size ∧ ∀ j, ¬ m j → c'[j]? = c[j]?
structure Keep (w0 : World) (may : Nat → Nat → Prop) (w : World) : Prop where
  os : w.os = w0.os
  tape : w.tape = w0.tape
  output : w.output = w0.output
  size : w0.heap.size ≤ w.heap.size
  block : ∀ b, b < w0.heap.size → Alike1 (may b) w0.heap[b]? w.heap[b]?

/-- where a call began: its world, what it may write there, and what it may rely on -/
structure Ctx where
  w0 : World
  may : Nat → Nat → Prop
  rd0 : Rd
  pos0 : Nat → Nat × Nat
  ok : ∀ b o v, rd0 b o = some v → w0.cell? ⟨b, o, none⟩ = some v ∧ ¬ may b o

open Classical in
noncomputable def rdOf (K : Ctx) (g : Env) (h : Hp) (w : World) : Rd := fun b o => if Ex g h b o then none else if b < K.w0.heap.size then K.rd0 b o else w.cell? ⟨b, o, none⟩

theorem Keep.cell {w w' : World} {may : Nat → Nat → Prop} (h : Keep w may w') {b o : Nat} {v : Value} (hc : w.cell? ⟨b, o, none⟩ = some v) (hm : ¬ may b o) : w'.cell? ⟨b, o, none⟩ = some v := by
  have hlt := World.block_lt_of_cell? w _ hc
  unfold World.cell? at hc ⊢
  simp only at hc hlt ⊢
  rcases h.block b hlt with e | ⟨c, c', e, f, h1, h2, h3, h4⟩
  · rw [e]; exact hc
  · rw [h1] at hc
    rw [h2]
    simp only [Option.isSome_none, Bool.false_eq_true, if_false] at hc ⊢
    rw [h4 o hm]
    exact hc

structure HG (K : Ctx) (g : Env) (w : World) (h : Hp) : Prop where
  keep : Keep K.w0 K.may w
  box : ∀ d cs, look h.boxes d = some cs → ∀ j y, cs[j]? = some y → ∃ u, w.cell? ⟨(g.pos d).1, (g.pos d).2 + j, none⟩ = some u ∧ w.frozen? ⟨(g.pos d).1, (g.pos d).2 + j, none⟩ = false ∧ CRel (rdOf K g h w) g u y
  may : ∀ d cs, look h.boxes d = some cs → ∀ j, j < cs.length → (g.pos d).1 < K.w0.heap.size → K.may (g.pos d).1 ((g.pos d).2 + j)
  dis : ∀ d d' cs cs', d ≠ d' → look h.boxes d = some cs → look h.boxes d' = some cs' → ∀ j j', j < cs.length → j' < cs'.length → (g.pos d).1 = (g.pos d').1 → (g.pos d).2 + j ≠ (g.pos d').2 + j'
  tok : ∀ t e s xs, look h.toks t = some (e, s, xs) → ∃ us, w.ownsRow K.w0.heap.size e s (g.tk t) xs.length us
  tdis : ∀ t t' x x', t ≠ t' → look h.toks t = some x → look h.toks t' = some x' → ∀ k, (g.tk t).ownBlock = some k → (g.tk t').ownBlock ≠ some k
  tbox : ∀ t x d cs, look h.toks t = some x → look h.boxes d = some cs → 0 < cs.length → (g.tk t).ownBlock ≠ some (g.pos d).1
  fix : ∀ d, 1000000 ≤ d → g.pos d = K.pos0 d

structure View (g : Env) (rd : Rd) (a : Act) (w : World) (s : St) : Prop where
  tmps : ∀ t v, look s.tmps t = some v → ∃ u, a.tmps[t]? = some u ∧ VRel rd g u v
  reads : ∀ b o v, rd b o = some v → w.cell? ⟨b, o, none⟩ = some v
  box : ∀ d cs, look s.hp.boxes d = some cs → ∀ j y, cs[j]? = some y → ∃ u, w.cell? ⟨(g.pos d).1, (g.pos d).2 + j, none⟩ = some u ∧ CRel rd g u y

structure RG (K : Ctx) (g : Env) (n : Nat) (a : Act) (w : World) (s : St) : Prop where
  defers : a.defers = []
  size : a.tmps.size = n
  hg : HG K g w s.hp
  tmps : ∀ t v, look s.tmps t = some v → ∃ u, a.tmps[t]? = some u ∧ VRel (rdOf K g s.hp w) g u v

theorem rdOf_le {K : Ctx} (g : Env) (h : Hp) {w : World} (hk : Keep K.w0 K.may w) : ∀ b o v, rdOf K g h w b o = some v → w.cell? ⟨b, o, none⟩ = some v := by
  intro b o v hv
  unfold rdOf at hv
  split at hv
  · cases hv
  · split at hv
    · exact hk.cell (K.ok b o v hv).1 (K.ok b o v hv).2
    · exact hv

theorem RG.view {K : Ctx} {g : Env} {n : Nat} {a : Act} {w : World} {s : St} (h : RG K g n a w s) : View g (rdOf K g s.hp w) a w s :=
  ⟨h.tmps, rdOf_le _ _ h.hg.keep, fun d cs hd j y hy => let ⟨u, h1, _, h3⟩ := h.hg.box d cs hd j y hy; ⟨u, h1, h3⟩⟩

def R (K : Ctx) (n : Nat) (a : Act) (w : World) (s : St) : Prop := ∃ g, RG K g n a w s

/-! ### the judgement, and the rules of control -/
def Post (K : Ctx) (n : Nat) (Q : Exit → St → Prop) (e : Exit) (a : Act) (w : World) : Prop := ∃ s, R K n a w s ∧ Q e s
def T (P : Program) (K : Ctx) (n : Nat) (c : Code) (s : St) (Q : Exit → St → Prop) : Prop := ∀ a w, R K n a w s → c.wp P (Post K n Q) a w

section
variable {P : Program} {K : Ctx} {n : Nat} {Q : Exit → St → Prop} {s : St}
def thenQ (next : St → Prop) (Q : Exit → St → Prop) : Exit → St → Prop
  | .normal, s => next s
  | e, s => Q e s
def blockQ (id : Nat) (Q : Exit → St → Prop) : Exit → St → Prop
  | .exit i, s => if i = id then Q .normal s else Q (.exit i) s
  | e, s => Q e s

theorem T_skip (h : Q .normal s) : T P K n .skip s Q := fun _ _ r => wp_skip ⟨s, r, h⟩
theorem T_ret (h : Q .ret s) : T P K n .ret s Q := fun _ _ r => wp_ret ⟨s, r, h⟩
theorem T_exit {id : Nat} (h : Q (.exit id) s) : T P K n (.exit id) s Q := fun _ _ r => wp_exit ⟨s, r, h⟩
theorem T_seq {x y : Code} (h : T P K n x s (thenQ (fun s' => T P K n y s' Q) Q)) : T P K n (.seq x y) s Q := fun a w r =>
  wp_seq (wp_mono (h a w r) fun e a' w' ⟨s', r', q⟩ => by
    cases e <;> simp only [thenQ] at q <;> simp only [Exit.then]
    case normal => exact q a' w' r'
    all_goals exact ⟨s', r', q⟩)
theorem T_block {id : Nat} {c : Code} (h : T P K n c s (blockQ id Q)) : T P K n (.block id c) s Q := fun a w r =>
  wp_block (wp_mono (h a w r) fun e a' w' hq => by
    obtain ⟨s', r', q⟩ := hq
    cases e with
    | exit i =>
      simp only [blockQ] at q
      simp only [Exit.inBlock]
      by_cases hi : i = id
      · rw [if_pos hi] at q ⊢; exact ⟨s', r', q⟩
      · rw [if_neg hi] at q ⊢; exact ⟨s', r', q⟩
    | _ => exact ⟨s', r', q⟩)
theorem T_mono {c : Code} {Q' : Exit → St → Prop} (h : T P K n c s Q) (k : ∀ e s, Q e s → Q' e s) : T P K n c s Q' := fun a w r =>
  wp_mono (h a w r) fun e a' w' ⟨s', r', q⟩ => ⟨s', r', k _ _ q⟩
/-- a loop: whatever family of states a measure goes down in -/
theorem T_loop {c : Code} {ι : Type} (I : ι → St) (μ : ι → Nat) (J : ι → Prop) (i : ι) (hi : J i) (h : ∀ i, J i → T P K n c (I i) (thenQ (fun s' => ∃ j, J j ∧ s' = I j ∧ μ j < μ i) Q)) : T P K n (.loop c) (I i) Q := by
  intro a w r b k cs
  have key : ∀ m i a w, μ i = m → J i → R K n a w (I i) → ∃ e a' w', Post K n Q e a' w' ∧ Arrives P (lone (b.at a (.code c :: .inLoop c :: k)) cs w) b k cs e a' w' := by
    intro m
    induction m using Nat.strongRecOn with
    | _ m ih =>
      intro i a w hm hj hr
      obtain ⟨e, a₁, w₁, ⟨s1, r1, hq⟩, harr⟩ := h i hj a w hr b (.inLoop c :: k) cs
      cases e with
      | normal =>
        obtain ⟨j, hj', rfl, hlt⟩ := hq
        obtain ⟨e₂, a₂, w₂, hq₂, harr₂⟩ := ih (μ j) (hm ▸ hlt) j a₁ w₁ rfl hj' r1
        exact ⟨e₂, a₂, w₂, hq₂, .of_steps (Steps.trans harr (.one step_inLoop)) harr₂⟩
      | exit id => exact ⟨_, a₁, w₁, ⟨s1, r1, hq⟩, .pass (x := .inLoop c) rfl (fun _ _ => .inl (by simp)) harr⟩
      | goto l => exact ⟨_, a₁, w₁, ⟨s1, r1, hq⟩, .pass (x := .inLoop c) rfl (fun _ _ => .inl (by simp)) harr⟩
      | ret => exact ⟨_, a₁, w₁, ⟨s1, r1, hq⟩, .pass (x := .inLoop c) rfl (fun _ _ => .inl (by simp)) harr⟩
      | panic ch => exact ⟨_, a₁, w₁, ⟨s1, r1, hq⟩, .pass (x := .inLoop c) rfl (fun _ _ => .inl (by simp)) harr⟩
      | outgrown => exact ⟨_, a₁, w₁, ⟨s1, r1, hq⟩, .pass (x := .inLoop c) rfl (fun _ _ => .inl (by simp)) harr⟩
  obtain ⟨e, a', w', hq, harr⟩ := key _ i a w rfl hi r
  exact ⟨e, a', w', hq, .of_steps (.one step_loop) harr⟩
end

/-! ### operands -/
def constSV : Value → Option SV
  | .agg vs => some (.agg (vs.toList.map SC.lit))
  | .tuple _ => none
  | v => some (.c (.lit v))
def opd (s : St) : Operand → Option SV
  | .tmp t => look s.tmps t
  | .const v => constSV v
  | .func f => some (.c (.lit (.func (.func f) #[] #[])))
  | .global _ => none

theorem constSV_rel {rd : Rd} {g : Env} {v : Value} {x : SV} (h : constSV v = some x) : VRel rd g v x := by
  unfold constSV at h
  split at h
  · cases h
    refine ⟨_, rfl, by simp, fun j y hy => ?_⟩
    rw [List.getElem?_map] at hy
    obtain ⟨u, hu, rfl⟩ := Option.map_eq_some_iff.1 hy
    exact ⟨u, by simpa using hu, .lit u⟩
  · cases h
  · cases h; exact IRel.lit _
theorem View.opd {g : Env} {rd : Rd} {a : Act} {w : World} {s : St} (h : View g rd a w s) {x : Operand} {v : SV} (hx : opd s x = some v) : VRel rd g (a.eval x) v := by
  cases x with
  | tmp t =>
    obtain ⟨u, h1, h2⟩ := h.tmps t v hx
    simp only [Act.eval, Array.getD_eq_getD_getElem?, h1, Option.getD_some]
    exact h2
  | const v => exact constSV_rel hx
  | func f => simp only [Go.Proofs.Ytohhaibbbnobpaa.opd] at hx; cases hx; exact .lit _
  | global g => simp [Go.Proofs.Ytohhaibbbnobpaa.opd] at hx

theorem T_cond {P : Program} {K : Ctx} {n : Nat} {Q : Exit → St → Prop} {s : St} {c : Operand} {x y : Code} (b : Bool) (hc : opd s c = some (.c (.lit (.bool b)))) (h : T P K n (if b then x else y) s Q) : T P K n (.cond c x y) s Q := by
  intro a w r
  obtain ⟨g, hg⟩ := r
  have h1 := hg.view.opd hc
  simp only [VRel, CRel] at h1
  have h2 : a.eval c = .bool b := by generalize a.eval c = u at *; cases h1; rfl
  exact wp_cond h2 (h a w ⟨g, hg⟩)

/-! ### forgetting -/
def St.keep (s : St) (ts bs ks : List Nat) : St :=
  { tmps := s.tmps.filter fun p => ts.contains p.1, hp := { boxes := s.hp.boxes.filter fun p => bs.contains p.1, toks := s.hp.toks.filter fun p => ks.contains p.1 } }
theorem look_filter {α : Type} (q : Nat → Bool) : ∀ (l : List (Nat × α)) (m : Nat) (x : α), look (l.filter fun p => q p.1) m = some x → look l m = some x
  | [], m, x, h => by simp [look] at h
  | (k, y) :: l, m, x, h => by
    simp only [List.filter_cons] at h
    split at h
    · rw [look_cons] at h ⊢
      split at h
      · rename_i hk; rw [if_pos hk]; exact h
      · rename_i hk; rw [if_neg hk]; exact look_filter q l m x h
    · rename_i hq
      have := look_filter q l m x h
      rw [look_cons]
      split
      · rename_i hk
        subst hk
        exfalso
        -- the name is struck: it is not found
        clear this
        induction l with
        | nil => simp [look] at h
        | cons p l ih =>
          obtain ⟨k', y'⟩ := p
          simp only [List.filter_cons] at h
          split at h
          · rename_i hq'
            rw [look_cons] at h
            split at h
            · rename_i hk'; subst hk'; exact hq hq'
            · exact ih h
          · exact ih h
      · exact this

theorem Ex_sub {g : Env} {h h' : Hp} (hb : ∀ d cs, look h'.boxes d = some cs → look h.boxes d = some cs) (ht : ∀ t x, look h'.toks t = some x → look h.toks t = some x) {b o : Nat} (k : Ex g h' b o) : Ex g h b o := by
  rcases k with ⟨d, cs, h1, h2⟩ | ⟨t, e, s, xs, a, c, h1, h2⟩
  · exact .inl ⟨d, cs, hb _ _ h1, h2⟩
  · exact .inr ⟨t, e, s, xs, a, c, ht _ _ h1, h2⟩
theorem rdOf_sub {K : Ctx} {g : Env} {h h' : Hp} {w : World} (hb : ∀ d cs, look h'.boxes d = some cs → look h.boxes d = some cs) (ht : ∀ t x, look h'.toks t = some x → look h.toks t = some x) : (rdOf K g h w).le (rdOf K g h' w) := by
  intro b o v hv
  unfold rdOf at *
  split at hv
  · cases hv
  · rename_i hx
    rw [if_neg fun k => hx (Ex_sub hb ht k)]
    exact hv
theorem HG.sub {K : Ctx} {g : Env} {w : World} {h h' : Hp} (k : HG K g w h) (hb : ∀ d cs, look h'.boxes d = some cs → look h.boxes d = some cs) (ht : ∀ t x, look h'.toks t = some x → look h.toks t = some x) : HG K g w h' where
  keep := k.keep
  box := fun d cs hd j y hy => let ⟨u, h1, h2, h3⟩ := k.box d cs (hb _ _ hd) j y hy; ⟨u, h1, h2, h3.mono (rdOf_sub hb ht)⟩
  may := fun d cs hd => k.may d cs (hb _ _ hd)
  dis := fun d d' cs cs' hne h1 h2 => k.dis d d' cs cs' hne (hb _ _ h1) (hb _ _ h2)
  tok := fun t e s xs h1 => k.tok t e s xs (ht _ _ h1)
  tdis := fun t t' x x' hne h1 h2 => k.tdis t t' x x' hne (ht _ _ h1) (ht _ _ h2)
  tbox := fun t x d cs h1 h2 => k.tbox t x d cs (ht _ _ h1) (hb _ _ h2)
  fix := k.fix
theorem R.keep {K : Ctx} {n : Nat} {a : Act} {w : World} {s : St} (h : R K n a w s) (ts bs ks : List Nat) : R K n a w (s.keep ts bs ks) := by
  obtain ⟨g, h⟩ := h
  have hb : ∀ d cs, look (s.keep ts bs ks).hp.boxes d = some cs → look s.hp.boxes d = some cs := fun d cs => look_filter (fun k => bs.contains k) _ _ _
  have ht : ∀ t x, look (s.keep ts bs ks).hp.toks t = some x → look s.hp.toks t = some x := fun t x => look_filter (fun k => ks.contains k) _ _ _
  refine ⟨g, h.defers, h.size, h.hg.sub hb ht, fun t v hv => ?_⟩
  obtain ⟨u, h1, h2⟩ := h.tmps t v (look_filter (fun k => ts.contains k) _ _ _ hv)
  exact ⟨u, h1, h2.mono (rdOf_sub hb ht)⟩
theorem T_keep {P : Program} {K : Ctx} {n : Nat} {Q : Exit → St → Prop} {s : St} {c : Code} (ts bs ks : List Nat) (h : T P K n c (s.keep ts bs ks) Q) : T P K n c s Q := fun a w r => h a w (r.keep ts bs ks)
end Go.Proofs.Ytohhaibbbnobpaa
