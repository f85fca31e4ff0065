/-
  SHADOWS: small words for the texts that cc.py writes.
-/
import Derived.Test.YtohhaibbbnobpaaSh8
namespace Go.Proofs.Ytohhaibbbnobpaa
open Go.RowKit

def arrS (k : IntKind) (n : Nat) (l : List Int) : List SC := (List.range n).map fun i => .lit (.int k (l.getD i 0))
def ecI (k : IntKind) (n : Int) : List SC := [.lit (.int k n)]
def ecB (b : Bool) : List SC := [.lit (.bool b)]
def ecS {α : Type} (s : Nat) (f : α → List SC) (l : List α) : List SC := [.slc s 0 (l.map f)]
def idx {α : Type} (l : List α) (i : Int) : Option α := if 0 ≤ i then l[i.toNat]? else none
theorem idx_spec {α : Type} {l : List α} {i : Int} {d : α} (h : idx l i = some d) : 0 ≤ i ∧ l[i.toNat]? = some d := by
  unfold idx at h
  split at h
  · exact ⟨‹_›, h⟩
  · cases h
theorem map_get {α β : Type} {f : α → β} {l : List α} {n : Nat} {d : α} (h : l[n]? = some d) : (l.map f)[n]? = some (f d) := by
  rw [List.getElem?_map, h]; rfl
theorem bindO {α β : Type} {x : Option α} {f : α → Option β} {r : β} (h : x.bind f = some r) : ∃ v, x = some v ∧ f v = some r := Option.bind_eq_some_iff.1 h
theorem condO {α : Type} {b : Bool} {x y : Option α} {r : α} (h : (bif b then x else y) = some r) : (b = true ∧ x = some r) ∨ (b = false ∧ y = some r) := by
  cases b
  · exact .inr ⟨rfl, h⟩
  · exact .inl ⟨rfl, h⟩
theorem chkO {α : Type} {b : Bool} {x : Option α} {r : α} (h : (bif b then x else none) = some r) : b = true ∧ x = some r := by
  cases b
  · cases h
  · exact ⟨rfl, h⟩
theorem notT {e : Bool} (h : e = false) : (!e) = true := by rw [h]; rfl
theorem notF {e : Bool} (h : e = true) : (!e) = false := by rw [h]; rfl
theorem grow_bool {P : Program} {o : Oper} {s : St} {e b : Bool} (h : sop P s o.op = some (.c (.lit (.bool e)))) (hb : e = b) : GrowOp P o s (.c (.lit (.bool b))) := by
  subst hb
  exact (sop_ok h).grow

theorem grow_sub {P : Program} {o : Oper} {s : St} {e b : Bool} (h : GrowOp P o s (.c (.lit (.bool e)))) (hb : e = b) : GrowOp P o s (.c (.lit (.bool b))) := hb ▸ h
def arrEq (n : Nat) (a b : List Int) : Bool := (List.range n).foldr (fun i r => (a.getD i 0 == b.getD i 0) && r) true
theorem grow_len {α : Type} {P : Program} {o : Oper} {s : St} {t : TypeId} {x : Operand} {e : TypeId} {f : α → List SC} (sz tag : Nat) (l : List α) (ho : o.op = .call { callee := .builtin .len, args := #[x], argTypes := #[t] }) (hx : opd s x = some (.c (.slc sz tag (l.map f)))) (hu : P.underlying t = some (.slice e)) : GrowOp P o s (int .i64 l.length) := by
  have := pure_lenSlc (P := P) sz tag (l.map f) ho hx hu
  rw [List.length_map] at this
  exact this.grow
def pickL {α : Type} (l : List (Nat × α)) : List Nat → List (Nat × α)
  | [] => []
  | t :: ts => match look l t with
    | some v => (t, v) :: pickL l ts
    | none => pickL l ts
theorem look_pickL {α : Type} (l : List (Nat × α)) : ∀ (ts : List Nat) (t : Nat) (v : α), look (pickL l ts) t = some v → look l t = some v
  | [], t, v, h => by simp [pickL, look] at h
  | u :: ts, t, v, h => by
    simp only [pickL] at h
    split at h
    · rename_i x hx
      rw [look_cons] at h
      split at h
      · rename_i hu; subst hu; cases h; exact hx
      · exact look_pickL l ts t v h
    · exact look_pickL l ts t v h
def St.keepS (s : St) (ts bs : List Nat) : St := { tmps := pickL s.tmps ts, hp := { boxes := pickL s.hp.boxes bs, toks := s.hp.toks } }
theorem R.keepS {K : Ctx} {n : Nat} {a : Act} {w : World} {s : St} (h : R K n a w s) (ts bs : List Nat) : R K n a w (s.keepS ts bs) := by
  obtain ⟨g, h⟩ := h
  have hb : ∀ d cs, look (s.keepS ts bs).hp.boxes d = some cs → look s.hp.boxes d = some cs := fun d cs => look_pickL _ _ _ _
  have ht : ∀ t x, look (s.keepS ts bs).hp.toks t = some x → look s.hp.toks t = some x := fun t x h => h
  refine ⟨g, h.defers, h.size, h.hg.sub hb ht, fun t v hv => ?_⟩
  obtain ⟨u, h1, h2⟩ := h.tmps t v (look_pickL _ _ _ _ hv)
  exact ⟨u, h1, h2.mono (rdOf_sub hb ht)⟩

section
variable {P : Program} {K : Ctx} {n : Nat} {Q : Exit → St → Prop} {s : St} {c x y : Code}
theorem T_keepS (ts bs : List Nat) (h : T P K n c (s.keepS ts bs) Q) : T P K n c s Q := fun a w r => h a w (r.keepS ts bs)
theorem T_sub {s' : St} (h : s = s') (ht : T P K n c s' Q) : T P K n c s Q := h ▸ ht
theorem T_condT' {co : Operand} {e : Bool} (hc : opd s co = some (.c (.lit (.bool e)))) (he : e = true) (h : T P K n x s Q) : T P K n (.cond co x y) s Q := by subst he; exact T_condT hc h
theorem T_condF' {co : Operand} {e : Bool} (hc : opd s co = some (.c (.lit (.bool e)))) (he : e = false) (h : T P K n y s Q) : T P K n (.cond co x y) s Q := by subst he; exact T_condF hc h
theorem TL_end {ops : Array Oper} {l : List Oper} (s' : St) (h : runs P n ops l s = some s') (ht : Q .normal s') : TL P K n ops l s Q := by
  have := runs_ok (P := P) (K := K) (n := n) (ops := ops) (l2 := []) (TL_nil ht) l s h
  rwa [List.append_nil] at this
theorem HeadX_end {ops : Array Oper} {l : List Oper} {s' : St} (h : runsH P n ops l s = some s') : HeadX P n ops l s s' := by
  have := runsH_ok (P := P) (n := n) (ops := ops) (l2 := []) HeadX_nil l s h
  rwa [List.append_nil] at this
theorem T_join {X ρ : Type} (ts bs : List Nat) (S : X → St) (j : X → Option ρ) (r : ρ) (hj : ∀ v, j v = some r → T P K n y (S v) Q) (hx : T P K n x s (thenQ (fun s' => ∃ v, j v = some r ∧ s'.keepS ts bs = S v) Q)) : T P K n (.seq x y) s Q :=
  T_seq (T_mono hx fun e st hq => by
    cases e <;> simp only [thenQ] at hq ⊢
    case normal =>
      obtain ⟨v, h1, h2⟩ := hq
      exact T_keepS ts bs (h2 ▸ hj v h1)
    all_goals exact hq)
end

section
variable {σ ρ : Type}
def bodyS (ts bs : List Nat) (I : σ → St) (QX : ρ → Exit → St → Prop) (x : σ ⊕ ρ) : Exit → St → Prop
  | .normal, st => ∃ s', x = .inl s' ∧ st.keepS ts bs = I s'
  | e, st => ∃ y, x = .inr y ∧ QX y e st
theorem T_loopR {P : Program} {K : Ctx} {n : Nat} {Q : Exit → St → Prop} {c : Code} {ι : Type} (ts bs : List Nat) (I : ι → St) (μ : ι → Nat) (J : ι → Prop) (i : ι) (hi : J i) (h : ∀ i, J i → T P K n c (I i) (thenQ (fun s' => ∃ j, J j ∧ s'.keepS ts bs = I j ∧ μ j < μ i) Q)) : T P K n (.loop c) (I i) Q := by
  intro a w r b k cs
  have key : ∀ m i a w, μ i = m → J i → R K n a w (I i) → ∃ e a' w', Post K n Q e a' w' ∧ Arrives P (lone (b.at a (.code c :: .inLoop c :: k)) cs w) b k cs e a' w' := by
    intro m
    induction m using Nat.strongRecOn with
    | _ m ih =>
      intro i a w hm hj hr
      obtain ⟨e, a₁, w₁, ⟨s1, r1, hq⟩, harr⟩ := h i hj a w hr b (.inLoop c :: k) cs
      cases e with
      | normal =>
        obtain ⟨j, hj', hs, hlt⟩ := hq
        obtain ⟨e₂, a₂, w₂, hq₂, harr₂⟩ := ih (μ j) (hm ▸ hlt) j a₁ w₁ rfl hj' (hs ▸ r1.keepS ts bs)
        exact ⟨e₂, a₂, w₂, hq₂, .of_steps (Steps.trans harr (.one step_inLoop)) harr₂⟩
      | exit id => exact ⟨_, a₁, w₁, ⟨s1, r1, hq⟩, .pass (x := .inLoop c) rfl (fun _ _ => .inl (by simp)) harr⟩
      | goto l => exact ⟨_, a₁, w₁, ⟨s1, r1, hq⟩, .pass (x := .inLoop c) rfl (fun _ _ => .inl (by simp)) harr⟩
      | ret => exact ⟨_, a₁, w₁, ⟨s1, r1, hq⟩, .pass (x := .inLoop c) rfl (fun _ _ => .inl (by simp)) harr⟩
      | panic ch => exact ⟨_, a₁, w₁, ⟨s1, r1, hq⟩, .pass (x := .inLoop c) rfl (fun _ _ => .inl (by simp)) harr⟩
      | outgrown => exact ⟨_, a₁, w₁, ⟨s1, r1, hq⟩, .pass (x := .inLoop c) rfl (fun _ _ => .inl (by simp)) harr⟩
  obtain ⟨e, a', w', hq, harr⟩ := key _ i a w rfl hi r
  exact ⟨e, a', w', hq, .of_steps (.one step_loop) harr⟩
theorem T_loopS {P : Program} {K : Ctx} {n : Nat} {c : Code} {Q : Exit → St → Prop} (ts bs : List Nat) (step : σ → Option (σ ⊕ ρ)) (I : σ → St) (QX : ρ → Exit → St → Prop) (s0 : σ) (r : ρ) (hr : loopO step s0 = some r)
    (hbody : ∀ s x, step s = some x → T P K n c (I s) (bodyS ts bs I QX x)) (hQ : ∀ e st, QX r e st → Q e st) : T P K n (.loop c) (I s0) Q := by
  obtain ⟨m, hm⟩ := loopO_some hr
  refine T_loopR ts bs (ι := Nat × σ) (fun p => I p.2) (fun p => p.1) (fun p => iterO step p.1 p.2 = some r) (m, s0) hm ?_
  rintro ⟨k, s⟩ hk
  cases k with
  | zero => cases hk
  | succ k =>
    simp only [iterO] at hk
    cases hs : step s with
    | none => rw [hs] at hk; cases hk
    | some x =>
      rw [hs] at hk
      refine T_mono (hbody s x hs) fun e st hq => ?_
      cases x with
      | inl s' =>
        simp only at hk
        cases e <;> simp only [bodyS, reduceCtorEq, false_and, exists_false, Sum.inl.injEq] at hq
        obtain ⟨s1, rfl, h1⟩ := hq
        exact ⟨(k, s'), hk, h1, Nat.lt_succ_self k⟩
      | inr y =>
        simp only [Option.some.injEq] at hk
        subst hk
        cases e <;> simp only [bodyS, reduceCtorEq, false_and, exists_false, Sum.inr.injEq] at hq
        all_goals
          obtain ⟨y', rfl, hq⟩ := hq
          exact hQ _ _ hq
end
end Go.Proofs.Ytohhaibbbnobpaa
