/-
  SHADOWS: states brought into one form; loops and ways that meet; rows that the call appends to.
-/
import Derived.Test.YtohhaibbbnobpaaSh13
namespace Go.Proofs.Ytohhaibbbnobpaa
open Go.RowKit

/-! ### one form -/
def fitT (l : List (Nat × SV)) : List (Nat × List Nat) → List (Nat × SV)
  | [] => []
  | (t, ks) :: ts => match look l t with
    | some v => (t, castV ks v) :: fitT l ts
    | none => fitT l ts
def fitB (l : List (Nat × List SC)) : List (Nat × List Nat) → List (Nat × List SC)
  | [] => []
  | (t, ks) :: ts => match look l t with
    | some v => (t, castL ks v) :: fitB l ts
    | none => fitB l ts
theorem look_fitT (l : List (Nat × SV)) : ∀ (ts : List (Nat × List Nat)) (t : Nat) (v : SV), look (fitT l ts) t = some v → ∃ ks u, look l t = some u ∧ v = castV ks u
  | [], t, v, h => by simp [fitT, look] at h
  | (u, ks) :: ts, t, v, h => by
    simp only [fitT] at h
    split at h
    · rename_i x hx
      rw [look_cons] at h
      split at h
      · rename_i hu; subst hu; cases h; exact ⟨ks, x, hx, rfl⟩
      · exact look_fitT l ts t v h
    · exact look_fitT l ts t v h
theorem look_fitB (l : List (Nat × List SC)) : ∀ (ts : List (Nat × List Nat)) (t : Nat) (v : List SC), look (fitB l ts) t = some v → ∃ ks u, look l t = some u ∧ v = castL ks u
  | [], t, v, h => by simp [fitB, look] at h
  | (u, ks) :: ts, t, v, h => by
    simp only [fitB] at h
    split at h
    · rename_i x hx
      rw [look_cons] at h
      split at h
      · rename_i hu; subst hu; cases h; exact ⟨ks, x, hx, rfl⟩
      · exact look_fitB l ts t v h
    · exact look_fitB l ts t v h
def St.fit (s : St) (ts bs : List (Nat × List Nat)) (ks : List Nat) : St := { tmps := fitT s.tmps ts, hp := { boxes := fitB s.hp.boxes bs, toks := pickL s.hp.toks ks } }

theorem Ex_fit {g : Env} {s : St} {ts bs : List (Nat × List Nat)} {ks : List Nat} {b o : Nat} (k : Ex g (s.fit ts bs ks).hp b o) : Ex g s.hp b o := by
  rcases k with ⟨d, cs, h1, h2, h3, h4⟩ | ⟨t, e, sz, xs, a, c, h1, h2⟩
  · obtain ⟨ks', cs0, h5, rfl⟩ := look_fitB _ _ _ _ h1
    rw [castL_length] at h4
    exact .inl ⟨d, cs0, h5, h2, h3, h4⟩
  · exact .inr ⟨t, e, sz, xs, a, c, look_pickL _ _ _ _ h1, h2⟩
theorem rdOf_fit {K : Ctx} {g : Env} {s : St} {w : World} (ts bs : List (Nat × List Nat)) (ks : List Nat) : (rdOf K g s.hp w).le (rdOf K g (s.fit ts bs ks).hp w) := by
  intro b o v hv
  unfold rdOf at *
  split at hv
  · cases hv
  · rename_i hx
    rw [if_neg fun k => hx (Ex_fit k)]
    exact hv
theorem R.fit {K : Ctx} {n : Nat} {a : Act} {w : World} {s : St} (h : R K n a w s) (ts bs : List (Nat × List Nat)) (ks : List Nat) : R K n a w (s.fit ts bs ks) := by
  obtain ⟨g, h⟩ := h
  have hle := rdOf_fit (K := K) (g := g) (s := s) (w := w) ts bs ks
  refine ⟨g, h.defers, h.size, ⟨h.hg.keep, ?_, ?_, ?_, ?_, ?_, ?_, h.hg.fix⟩, fun t v hv => ?_⟩
  · intro d cs hd j y hy
    obtain ⟨ks', cs0, h5, rfl⟩ := look_fitB _ _ _ _ hd
    obtain ⟨k, x, hx, rfl⟩ := castL_get ks' cs0 j y hy
    obtain ⟨u, h1, h2, h3⟩ := h.hg.box d cs0 h5 j x hx
    exact ⟨u, h1, h2, cast1_rel k (h3.mono hle)⟩
  · intro d cs hd j hj
    obtain ⟨ks', cs0, h5, rfl⟩ := look_fitB _ _ _ _ hd
    rw [castL_length] at hj
    exact h.hg.may d cs0 h5 j hj
  · intro d d' cs cs' hne h1 h2 j j' hj hj'
    obtain ⟨_, c1, h5, rfl⟩ := look_fitB _ _ _ _ h1
    obtain ⟨_, c2, h6, rfl⟩ := look_fitB _ _ _ _ h2
    rw [castL_length] at hj hj'
    exact h.hg.dis d d' c1 c2 hne h5 h6 j j' hj hj'
  · intro t e sz xs ht
    exact h.hg.tok t e sz xs (look_pickL _ _ _ _ ht)
  · intro t t' x x' hne h1 h2
    exact h.hg.tdis t t' x x' hne (look_pickL _ _ _ _ h1) (look_pickL _ _ _ _ h2)
  · intro t x d cs h1 h2 hpos
    obtain ⟨_, c2, h6, rfl⟩ := look_fitB _ _ _ _ h2
    rw [castL_length] at hpos
    exact h.hg.tbox t x d c2 (look_pickL _ _ _ _ h1) h6 hpos
  · obtain ⟨ks', v0, h5, rfl⟩ := look_fitT _ _ _ _ hv
    obtain ⟨u, h1, h2⟩ := h.tmps t v0 h5
    exact ⟨u, h1, castV_rel ks' (h2.mono hle)⟩

section
variable {P : Program} {K : Ctx} {n : Nat} {Q : Exit → St → Prop} {s : St} {c x y : Code}
theorem T_fit (ts bs : List (Nat × List Nat)) (ks : List Nat) (h : T P K n c (s.fit ts bs ks) Q) : T P K n c s Q := fun a w r => h a w (r.fit ts bs ks)
theorem T_joinF {X ρ : Type} (ts bs : List (Nat × List Nat)) (ks : List Nat) (S : X → St) (j : X → Option ρ) (r : ρ) (hj : ∀ v, j v = some r → T P K n y (S v) Q) (hx : T P K n x s (thenQ (fun s' => ∃ v, j v = some r ∧ s'.fit ts bs ks = S v) Q)) : T P K n (.seq x y) s Q :=
  T_seq (T_mono hx fun e st hq => by
    cases e <;> simp only [thenQ] at hq ⊢
    case normal =>
      obtain ⟨v, h1, h2⟩ := hq
      exact T_fit ts bs ks (h2 ▸ hj v h1)
    all_goals exact hq)
end

section
variable {σ ρ : Type}
def bodyF (ts bs : List (Nat × List Nat)) (ks : List Nat) (I : σ → St) (QX : ρ → Exit → St → Prop) (x : σ ⊕ ρ) : Exit → St → Prop
  | .normal, st => ∃ s', x = .inl s' ∧ st.fit ts bs ks = I s'
  | e, st => ∃ y, x = .inr y ∧ QX y e st
theorem T_loopW {P : Program} {K : Ctx} {n : Nat} {Q : Exit → St → Prop} {c : Code} {ι : Type} (ts bs : List (Nat × List Nat)) (ks : List Nat) (I : ι → St) (μ : ι → Nat) (J : ι → Prop) (i : ι) (hi : J i) (h : ∀ i, J i → T P K n c (I i) (thenQ (fun s' => ∃ j, J j ∧ s'.fit ts bs ks = I j ∧ μ j < μ i) Q)) : T P K n (.loop c) (I i) Q := by
  intro a w r b k cs
  have key : ∀ m i a w, μ i = m → J i → R K n a w (I i) → ∃ e a' w', Post K n Q e a' w' ∧ Arrives P (lone (b.at a (.code c :: .inLoop c :: k)) cs w) b k cs e a' w' := by
    intro m
    induction m using Nat.strongRecOn with
    | _ m ih =>
      intro i a w hm hj hr
      obtain ⟨e, a₁, w₁, ⟨s1, r1, hq⟩, harr⟩ := h i hj a w hr b (.inLoop c :: k) cs
      cases e with
      | normal =>
        obtain ⟨j, hj', hs, hlt⟩ := hq
        obtain ⟨e₂, a₂, w₂, hq₂, harr₂⟩ := ih (μ j) (hm ▸ hlt) j a₁ w₁ rfl hj' (hs ▸ r1.fit ts bs ks)
        exact ⟨e₂, a₂, w₂, hq₂, .of_steps (Steps.trans harr (.one step_inLoop)) harr₂⟩
      | exit id => exact ⟨_, a₁, w₁, ⟨s1, r1, hq⟩, .pass (x := .inLoop c) rfl (fun _ _ => .inl (by simp)) harr⟩
      | goto l => exact ⟨_, a₁, w₁, ⟨s1, r1, hq⟩, .pass (x := .inLoop c) rfl (fun _ _ => .inl (by simp)) harr⟩
      | ret => exact ⟨_, a₁, w₁, ⟨s1, r1, hq⟩, .pass (x := .inLoop c) rfl (fun _ _ => .inl (by simp)) harr⟩
      | panic ch => exact ⟨_, a₁, w₁, ⟨s1, r1, hq⟩, .pass (x := .inLoop c) rfl (fun _ _ => .inl (by simp)) harr⟩
      | outgrown => exact ⟨_, a₁, w₁, ⟨s1, r1, hq⟩, .pass (x := .inLoop c) rfl (fun _ _ => .inl (by simp)) harr⟩
  obtain ⟨e, a', w', hq, harr⟩ := key _ i a w rfl hi r
  exact ⟨e, a', w', hq, .of_steps (.one step_loop) harr⟩
theorem T_loopF {P : Program} {K : Ctx} {n : Nat} {c : Code} {Q : Exit → St → Prop} (ts bs : List (Nat × List Nat)) (ks : List Nat) (step : σ → Option (σ ⊕ ρ)) (I : σ → St) (QX : ρ → Exit → St → Prop) (s0 : σ) (r : ρ) (hr : loopO step s0 = some r)
    (hbody : ∀ s x, step s = some x → T P K n c (I s) (bodyF ts bs ks I QX x)) (hQ : ∀ e st, QX r e st → Q e st) : T P K n (.loop c) (I s0) Q := by
  obtain ⟨m, hm⟩ := loopO_some hr
  refine T_loopW ts bs ks (ι := Nat × σ) (fun p => I p.2) (fun p => p.1) (fun p => iterO step p.1 p.2 = some r) (m, s0) hm ?_
  rintro ⟨k, s⟩ hk
  cases k with
  | zero => cases hk
  | succ k =>
    simp only [iterO] at hk
    cases hs : step s with
    | none => rw [hs] at hk; cases hk
    | some x =>
      rw [hs] at hk
      refine T_mono (hbody s x hs) fun e st hq => ?_
      cases x with
      | inl s' =>
        simp only at hk
        cases e <;> simp only [bodyF, reduceCtorEq, false_and, exists_false, Sum.inl.injEq] at hq
        obtain ⟨s1, rfl, h1⟩ := hq
        exact ⟨(k, s'), hk, h1, Nat.lt_succ_self k⟩
      | inr y =>
        simp only [Option.some.injEq] at hk
        subst hk
        cases e <;> simp only [bodyF, reduceCtorEq, false_and, exists_false, Sum.inr.injEq] at hq
        all_goals
          obtain ⟨y', rfl, hq⟩ := hq
          exact hQ _ _ hq
end

/-! ### rows that the call appends to -/
def St.freshK (s : St) (t : Nat) : Bool := (look s.hp.toks t).isNone && s.tmps.all (fun p => p.2.every (SC.okTok t)) && s.hp.boxes.all fun p => p.2.all (SC.okTok t)
/-- the token t, or none where it is new -/
def St.freshOr (s : St) (t : Nat) (x : SC) : Bool := match x with
  | .slc _ tag _ => tag == t + 2 || s.freshK t
  | _ => s.freshK t

theorem CRel.toTok {rd : Rd} {g : Env} {v u : Value} {x : SC} {t : Nat} (h : CRel rd g v x) (hx : x.okTok t = true) : CRel rd (g.setTk t u) v x := h.setTk hx

/-- a nil slice in a slot becomes a row of the call's own -/
def St.nilT (s : St) (t tok e sz : Nat) : St := { tmps := (t, .c (.slc sz (tok + 2) [])) :: drop1 s.tmps t, hp := { s.hp with toks := (tok, (e, sz, [])) :: s.hp.toks } }
theorem HG.newTok {K : Ctx} {g : Env} {w : World} {s : St} (h : HG K g w s.hp) {tok e sz : Nat} (hf : s.freshK tok = true) : HG K (g.setTk tok (.slice none 0 0)) w { s.hp with toks := (tok, (e, sz, [])) :: s.hp.toks } ∧ (rdOf K g s.hp w).le (rdOf K (g.setTk tok (.slice none 0 0)) { s.hp with toks := (tok, (e, sz, [])) :: s.hp.toks } w) := by
  simp only [St.freshK, Bool.and_eq_true, Option.isNone_iff_eq_none, List.all_eq_true] at hf
  obtain ⟨⟨hf1, hf2⟩, hf3⟩ := hf
  have hne : ∀ t x, look s.hp.toks t = some x → t ≠ tok := fun t x hx he => by subst he; rw [hf1] at hx; cases hx
  have hex : ∀ b o, Ex (g.setTk tok (.slice none 0 0)) { s.hp with toks := (tok, (e, sz, [])) :: s.hp.toks } b o → Ex g s.hp b o := by
    rintro b o (k | ⟨t, e', s', xs, a, c, h1, h2, h3⟩)
    · exact .inl k
    · rw [look_cons] at h1
      split at h1
      · rename_i ht; subst ht
        simp only [Env.setTk, if_true] at h2
        cases h2
      · have := hne t _ h1
        simp only [Env.setTk, this, if_false] at h2
        exact .inr ⟨t, e', s', xs, a, c, h1, h2, h3⟩
  have hle : (rdOf K g s.hp w).le (rdOf K (g.setTk tok (.slice none 0 0)) { s.hp with toks := (tok, (e, sz, [])) :: s.hp.toks } w) := by
    intro b o v hv
    unfold rdOf at *
    split at hv
    · cases hv
    · rename_i hx
      rw [if_neg fun k => hx (hex b o k)]
      exact hv
  refine ⟨⟨h.keep, ?_, h.may, h.dis, ?_, ?_, ?_, h.fix⟩, hle⟩
  · intro d cs hd j y hy
    obtain ⟨u, h1, h2, h3⟩ := h.box d cs hd j y hy
    exact ⟨u, h1, h2, (h3.mono hle).setTk (hf3 _ (look_mem hd) y (List.mem_of_getElem? hy))⟩
  · intro t e' s' xs ht
    rw [look_cons] at ht
    split at ht
    · rename_i he; subst he; cases ht
      exact ⟨[], by simp only [Env.setTk, if_true]; exact World.ownsRow_nil _ _ _ _⟩
    · simp only [Env.setTk, hne t _ ht, if_false]
      exact h.tok t e' s' xs ht
  · intro t t' x x' hne' h1 h2 k hk
    rw [look_cons] at h1 h2
    split at h1
    · rename_i he; subst he
      simp only [Env.setTk, if_true, Value.ownBlock] at hk
      cases hk
    · split at h2
      · rename_i he; subst he
        simp only [Env.setTk, if_true, Value.ownBlock]
        simp
      · simp only [Env.setTk, hne t _ h1, hne t' _ h2, if_false] at hk ⊢
        exact h.tdis t t' x x' hne' h1 h2 k hk
  · intro t x d cs h1 h2 hpos
    rw [look_cons] at h1
    split at h1
    · rename_i he; subst he
      simp only [Env.setTk, if_true, Value.ownBlock]
      simp
    · simp only [Env.setTk, hne t _ h1, if_false]
      exact h.tbox t x d cs h1 h2 hpos
theorem T_nilT {P : Program} {K : Ctx} {n : Nat} {Q : Exit → St → Prop} {s : St} {c : Code} (t tok e sz : Nat) (hl : look s.tmps t = some (.c (.lit (.slice none 0 0)))) (hf : s.freshK tok = true) (h : T P K n c (s.nilT t tok e sz) Q) : T P K n c s Q := by
  intro a w ⟨g, r⟩
  obtain ⟨h1, hle⟩ := r.hg.newTok (e := e) (sz := sz) hf
  refine h a w ⟨_, r.defers, r.size, h1, fun u v hv => ?_⟩
  simp only [St.freshK, Bool.and_eq_true, Option.isNone_iff_eq_none, List.all_eq_true] at hf
  simp only [St.nilT] at hv
  rw [look_cons, look_drop1] at hv
  by_cases hu : t = u
  · subst hu
    rw [if_pos rfl] at hv
    cases hv
    obtain ⟨z, h2, h3⟩ := r.tmps t _ hl
    have := rel_lit h3
    subst this
    exact ⟨_, h2, ⟨.nil _ _ _ (by decide), by simp [Tag, Env.setTk, vlen]⟩⟩
  · rw [if_neg hu, if_neg (Ne.symm hu)] at hv
    obtain ⟨z, h2, h3⟩ := r.tmps u v hv
    exact ⟨z, h2, VRel.imp (fun v x hx k => (k.mono hle).setTk hx) h3 (hf.1.2 _ (look_mem hv))⟩
/-- .. and in a variable -/
def St.nilB (s : St) (d off tok e sz : Nat) (cs : List SC) : St := { s with hp := { boxes := (d, over cs off [.slc sz (tok + 2) []]) :: drop1 s.hp.boxes d, toks := (tok, (e, sz, [])) :: s.hp.toks } }
theorem T_nilB {P : Program} {K : Ctx} {n : Nat} {Q : Exit → St → Prop} {s : St} {c : Code} (d off tok e sz : Nat) (cs : List SC) (hl : look s.hp.boxes d = some cs) (ho : cs[off]? = some (.lit (.slice none 0 0))) (hf : s.freshK tok = true) (h : T P K n c (s.nilB d off tok e sz cs) Q) : T P K n c s Q := by
  intro a w ⟨g, r⟩
  obtain ⟨h1, hle⟩ := r.hg.newTok (e := e) (sz := sz) hf
  have hlt := (List.getElem?_eq_some_iff.1 ho).1
  have hsz : off + ([.slc sz (tok + 2) []] : List SC).length ≤ cs.length := by simp; omega
  simp only [St.freshK, Bool.and_eq_true, Option.isNone_iff_eq_none, List.all_eq_true] at hf
  have lk : ∀ d' cs', look (s.nilB d off tok e sz cs).hp.boxes d' = some cs' → ∃ cs0, look s.hp.boxes d' = some cs0 ∧ cs0.length = cs'.length ∧ ((d' = d ∧ cs0 = cs ∧ cs' = over cs off [.slc sz (tok + 2) []]) ∨ cs' = cs0) := by
    intro d' cs' hd'
    simp only [St.nilB, look_cons, look_drop1] at hd'
    by_cases he : d = d'
    · subst he
      rw [if_pos rfl] at hd'
      cases hd'
      exact ⟨cs, hl, (over_length hsz).symm, .inl ⟨rfl, rfl, rfl⟩⟩
    · rw [if_neg he, if_neg (Ne.symm he)] at hd'
      exact ⟨cs', hd', rfl, .inr rfl⟩
  have hle2 : (rdOf K (g.setTk tok (.slice none 0 0)) { s.hp with toks := (tok, (e, sz, [])) :: s.hp.toks } w).le (rdOf K (g.setTk tok (.slice none 0 0)) (s.nilB d off tok e sz cs).hp w) := by
    intro b o v hv
    unfold rdOf at *
    split at hv
    · cases hv
    · rename_i hx
      rw [if_neg]
      · exact hv
      · intro k
        apply hx
        rcases k with ⟨d', cs', k1, k2, k3, k4⟩ | k
        · obtain ⟨cs0, q1, q2, _⟩ := lk d' cs' k1
          exact .inl ⟨d', cs0, q1, k2, k3, by rw [q2]; exact k4⟩
        · exact .inr k
  refine h a w ⟨g.setTk tok (.slice none 0 0), r.defers, r.size, ⟨h1.keep, ?_, ?_, ?_, h1.tok, h1.tdis, ?_, h1.fix⟩, fun u v hv => ?_⟩
  · intro d' cs' hd' j y hy
    obtain ⟨cs0, q1, q2, q3⟩ := lk d' cs' hd'
    rcases q3 with ⟨rfl, rfl, rfl⟩ | rfl
    · rw [over_get hsz] at hy
      by_cases hj : off ≤ j ∧ j < off + ([.slc sz (tok + 2) []] : List SC).length
      · rw [if_pos hj] at hy
        have hj' : j = off := by simp at hj; omega
        subst hj'
        simp only [Nat.sub_self, List.getElem?_cons_zero, Option.some.injEq] at hy
        subst hy
        obtain ⟨z, k1, k2, k3⟩ := r.hg.box d' cs0 hl j _ ho
        simp only [CRel] at k3
        cases k3
        exact ⟨_, k1, k2, ⟨.nil _ _ _ (by decide), by simp [Tag, Env.setTk, vlen]⟩⟩
      · rw [if_neg hj] at hy
        obtain ⟨z, k1, k2, k3⟩ := h1.box d' cs0 q1 j y hy
        exact ⟨z, k1, k2, k3.mono hle2⟩
    · obtain ⟨z, k1, k2, k3⟩ := h1.box d' cs' q1 j y hy
      exact ⟨z, k1, k2, k3.mono hle2⟩
  · intro d' cs' hd' j hj
    obtain ⟨cs0, q1, q2, _⟩ := lk d' cs' hd'
    exact h1.may d' cs0 q1 j (by omega)
  · intro d1 d2 c1 c2 hne k1 k2 j j' hj hj'
    obtain ⟨e1, q1, q2, _⟩ := lk d1 c1 k1
    obtain ⟨e2, p1, p2, _⟩ := lk d2 c2 k2
    exact h1.dis d1 d2 e1 e2 hne q1 p1 j j' (by omega) (by omega)
  · intro t x d' cs' k1 k2 hpos
    obtain ⟨cs0, q1, q2, _⟩ := lk d' cs' k2
    exact h1.tbox t x d' cs0 k1 q1 (by omega)
  · obtain ⟨z, h2, h3⟩ := r.tmps u v hv
    exact ⟨z, h2, (VRel.imp (fun v x hx k => (k.mono hle).setTk hx) h3 (hf.1.2 _ (look_mem hv))).mono hle2⟩
end Go.Proofs.Ytohhaibbbnobpaa
