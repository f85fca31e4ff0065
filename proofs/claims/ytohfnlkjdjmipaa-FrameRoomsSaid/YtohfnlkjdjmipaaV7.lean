/-
  SHADOWS, second make: one form for several states; ways that meet; loops; calls in the machine.
-/
import Derived.Test.YtohfnlkjdjmipaaV6
namespace Go.Proofs.Ytohfnlkjdjmipaa
open Go.RowKit

/-! ### what is known of a bool -/
theorem R_know {K : Ctx} {n : Nat} {a : Act} {w : World} {s : St} {t : Nat} {e b : Bool} (h : look s.tmps t = some (.c (.lit (.bool e)))) (hb : e = b) (r : R K n a w s) : R K n a w (s.put (some t) (.c (.lit (.bool b)))) := by
  subst hb
  obtain ⟨g, r⟩ := r
  refine ⟨g, r.sim (fun k => ?_) rfl⟩
  rw [look_put]
  split
  · rename_i hk; subst hk; exact h.symm
  · rfl
def Cfg.putB (C : Cfg) (t : Nat) (b : Bool) : Cfg := C.withS (C.st.put (some t) (.c (.lit (.bool b))))
theorem TS_know {P : Program} {K : Ctx} {n : Nat} {Q : Exit → St → Prop} {C : Cfg} (t : Nat) {e b : Bool} (hb : e = b) (h : look C.st.tmps t = some (.c (.lit (.bool e)))) (he : C.pre = true) (k : TS P K n (C.putB t b) Q) : TS P K n C Q :=
  TS_state _ (fun _ _ r => R_know h hb r) he k

/-! ### the fit -/
/-- slots with casts; resources: old name, new name, casts -/
structure Fit where
  ts : List (Nat × List Nat)
  ds : List (Nat × (Nat × List Nat))
def Fit.to (f : Fit) (d : Nat) : Nat := match look f.ds d with
  | some q => q.1
  | none => d
def pickT (l : List (Nat × SV)) (ρ : Nat → Nat) : List (Nat × List Nat) → Option (List (Nat × SV))
  | [] => some []
  | (t, ks) :: ts => match look l t, pickT l ρ ts with
    | some v, some r => some ((t, (castV ks v).map (SC.ren ρ)) :: r)
    | _, _ => none
def pickR (h : Hp) (ρ : Nat → Nat) : List (Nat × (Nat × List Nat)) → Option Hp
  | [] => some []
  | (d, (d', ks)) :: ds => match look h d, pickR h ρ ds with
    | some x, some r => some ((d', (castR ks x).map (SC.ren ρ)) :: r)
    | _, _ => none
/-- names that are kept, or that nobody takes -/
def Fit.knows (f : Fit) (d : Nat) : Bool := (look f.ds d).isSome || f.ds.all fun q => q.2.1 != d
def Fit.ok (f : Fit) (T : List (Nat × SV)) (h : Hp) : Bool :=
  (f.ds.all fun q => decide (look f.ds q.1 = some q.2) && (decide (q.2.1 < 1000000) || q.1 == q.2.1 || (match look h q.1 with | some r => !r.isBox | none => false)) && f.ds.all fun q' => q.1 == q'.1 || q.2.1 != q'.2.1) &&
  (f.ts.all fun q => match look T q.1 with | some v => v.every (SC.say f.knows) | none => true) && (f.ds.all fun q => match look h q.1 with | some x => x.every (SC.say f.knows) | none => true)
def fitS (f : Fit) (s : St) : Option St := if f.ok s.tmps s.hp then
    match pickT s.tmps f.to f.ts, pickR s.hp f.to f.ds with
    | some T, some h => some ⟨T, h⟩
    | _, _ => none
  else none
theorem pickT_look {l : List (Nat × SV)} {ρ : Nat → Nat} : ∀ (ts : List (Nat × List Nat)) {T : List (Nat × SV)}, pickT l ρ ts = some T → ∀ t v, look T t = some v → ∃ ks v0, (t, ks) ∈ ts ∧ look l t = some v0 ∧ v = (castV ks v0).map (SC.ren ρ)
  | [], T, e, t, v, hx => by cases e; simp [look] at hx
  | (t0, ks) :: ts, T, e, t, v, hx => by
    simp only [pickT] at e
    split at e
    · rename_i v0 r q1 q2
      cases e
      rw [look_cons] at hx
      split at hx
      · rename_i hd; subst hd; cases hx; exact ⟨ks, v0, by simp, q1, rfl⟩
      · obtain ⟨ks', v', q3, q4⟩ := pickT_look ts q2 t v hx
        exact ⟨ks', v', by simp [q3], q4⟩
    · cases e
theorem pickR_look {l : Hp} {ρ : Nat → Nat} : ∀ (ds : List (Nat × (Nat × List Nat))) {h : Hp}, pickR l ρ ds = some h → ∀ d' x, look h d' = some x → ∃ d ks x0, (d, (d', ks)) ∈ ds ∧ look l d = some x0 ∧ x = (castR ks x0).map (SC.ren ρ)
  | [], T, e, t, v, hx => by cases e; simp [look] at hx
  | (d0, (d1, ks)) :: ts, T, e, t, v, hx => by
    simp only [pickR] at e
    split at e
    · rename_i v0 r q1 q2
      cases e
      rw [look_cons] at hx
      split at hx
      · rename_i hd; subst hd; cases hx; exact ⟨d0, ks, v0, by simp, q1, rfl⟩
      · obtain ⟨d, ks', v', q3, q4⟩ := pickR_look ts q2 t v hx
        exact ⟨d, ks', v', by simp [q3], q4⟩
    · cases e
theorem cast1_say (p : Nat → Bool) (k : Nat) (x : SC) (h : x.say p = true) : (cast1 k x).say p = true := by
  unfold cast1
  split
  · exact h
  · split <;> first | rfl | exact h
theorem castL_say (p : Nat → Bool) (ks : List Nat) (cs : List SC) (h : cs.all (SC.say p) = true) : (castL ks cs).all (SC.say p) = true := by
  refine List.all_eq_true.2 (fun y hy => ?_)
  obtain ⟨j, hj⟩ := List.getElem?_of_mem hy
  obtain ⟨k, x, hx, rfl⟩ := castL_get ks cs j y hj
  exact cast1_say p k x (List.all_eq_true.1 h x (List.mem_of_getElem? hx))
theorem castV_say (p : Nat → Bool) (ks : List Nat) (v : SV) (h : v.every (SC.say p) = true) : (castV ks v).every (SC.say p) = true := by
  cases v with
  | c x => cases ks with
    | nil => exact h
    | cons k ks => exact cast1_say p k x h
  | agg cs => exact castL_say p ks cs h
  | tup xs =>
    refine List.all_eq_true.2 (fun y hy => ?_)
    obtain ⟨j, hj⟩ := List.getElem?_of_mem hy
    obtain ⟨ks', x, hx, rfl⟩ := castTs_get ks xs j y hj
    exact castL_say p ks' x.2 (List.all_eq_true.1 h x (List.mem_of_getElem? hx))
theorem castR_say (p : Nat → Bool) (ks : List Nat) (r : Res) (h : r.every (SC.say p) = true) : (castR ks r).every (SC.say p) = true := by
  cases r with
  | box cs => exact castL_say p ks cs h
  | row e s n xs => rfl
  | spare e s n => rfl

theorem R.fit {K : Ctx} {n : Nat} {a : Act} {w : World} {s s' : St} (f : Fit) (hf : fitS f s = some s') (h : R K n a w s) : R K n a w s' := by
  obtain ⟨g, h⟩ := h
  unfold fitS at hf
  split at hf
  · rename_i hok
    split at hf
    · rename_i T hp hT hR
      cases hf
      simp only [Fit.ok, Bool.and_eq_true, List.all_eq_true] at hok
      obtain ⟨⟨hok1, hok2⟩, hok3⟩ := hok
      have hds : ∀ q, q ∈ f.ds → look f.ds q.1 = some q.2 ∧ (q.2.1 < 1000000 ∨ q.1 = q.2.1 ∨ ∀ cs, look s.hp q.1 ≠ some (.box cs)) ∧ ∀ q', q' ∈ f.ds → q.1 = q'.1 ∨ q.2.1 ≠ q'.2.1 := by
        intro q hq
        have := hok1 q hq
        refine ⟨of_decide_eq_true this.1.1, ?_, fun q' hq' => ?_⟩
        · have h2 := this.1.2
          simp only [Bool.or_eq_true, decide_eq_true_eq, beq_iff_eq] at h2
          rcases h2 with (h2 | h2) | h2
          · exact .inl h2
          · exact .inr (.inl h2)
          · refine .inr (.inr fun cs hcs => ?_)
            rw [hcs] at h2
            cases h2
        · have h2 := this.2 q' hq'
          simp only [Bool.or_eq_true, beq_iff_eq, bne_iff_ne] at h2
          exact h2
      -- the old name of a new one
      let back : Nat → Nat := fun d' => match f.ds.find? (fun q => q.2.1 == d') with
        | some q => q.1
        | none => d'
      let g' : Env := ⟨fun d' => g.pos (back d'), fun d' => g.tk (back d')⟩
      have hback : ∀ d q, look f.ds d = some q → back q.1 = d := by
        intro d q hq
        have hm := look_mem hq
        simp only [back]
        split
        · rename_i q' hq'
          have h1 := List.find?_some hq'
          simp only [beq_iff_eq] at h1
          have h2 := List.mem_of_find?_eq_some hq'
          rcases (hds q' h2).2.2 (d, q) hm with h3 | h3
          · exact h3
          · exact absurd h1 h3
        · rename_i hn
          exact absurd (List.find?_eq_none.1 hn _ hm) (by simp)
      let p : Nat → Bool := f.knows
      have hto : ∀ d, p d = true → g'.pos (f.to d) = g.pos d ∧ g'.tk (f.to d) = g.tk d := by
        intro d hd
        cases hq : look f.ds d with
        | some q => simp only [g', Fit.to, hq, hback d q hq, and_self]
        | none =>
          have hbd : back d = d := by
            simp only [p, Fit.knows, hq, Option.isSome_none, Bool.false_or, List.all_eq_true] at hd
            simp only [back]
            split
            · rename_i q' hq'
              have h1 := List.find?_some hq'
              simp only [beq_iff_eq] at h1
              have := hd q' (List.mem_of_find?_eq_some hq')
              simp [h1] at this
            · rfl
          simp only [g', Fit.to, hq, hbd, and_self]
      have hlk : ∀ d' x, look hp d' = some x → ∃ d ks x0, look f.ds d = some (d', ks) ∧ look s.hp d = some x0 ∧ x = (castR ks x0).map (SC.ren f.to) ∧ f.to d = d' ∧ p d = true := by
        intro d' x hx
        obtain ⟨d, ks, x0, q1, q2, q3⟩ := pickR_look f.ds hR d' x hx
        have q4 := (hds _ q1).1
        exact ⟨d, ks, x0, q4, q2, q3, by simp [Fit.to, q4], by simp [p, Fit.knows, q4]⟩
      have hfoot : ∀ d d' x0 (m : SC → SC) ks, f.to d = d' → p d = true → Foot g' d' ((castR ks x0).map m) = Foot g d x0 := by
        intro d d' x0 m ks h1 h2
        rw [foot_map, castR_foot, ← h1]
        have := hto d h2
        funext b o
        cases x0 <;> simp only [Foot, this.1, this.2]
      have hin : ∀ b o, InFoot g' hp b o → InFoot g s.hp b o := by
        rintro b o ⟨d', x, q1, q2⟩
        obtain ⟨d, ks, x0, q3, q4, rfl, q5, q6⟩ := hlk d' x q1
        rw [hfoot d d' x0 _ ks q5 q6] at q2
        exact ⟨d, x0, q4, q2⟩
      have hle : (rdOf K g s.hp w).le (rdOf K g' hp w) := by
        intro b o v hv
        unfold rdOf at *
        split at hv
        · cases hv
        · rename_i hx
          rw [if_neg (fun k => hx (hin b o k))]
          exact hv
      have hsay : ∀ d x0, look f.ds d ≠ none → look s.hp d = some x0 → x0.every (SC.say p) = true := by
        intro d x0 hd hx
        obtain ⟨q, hq⟩ := Option.ne_none_iff_exists'.1 hd
        have := hok3 _ (look_mem hq)
        simp only [hx] at this
        exact this
      refine ⟨g', h.defers, h.size, h.few, ⟨h.hg.keep, fun d' x hx => ?_, fun b o hx hb => h.hg.may b o (hin b o hx) hb, ?_, ?_, ?_⟩, fun t v hv => ?_⟩
      · obtain ⟨d, ks, x0, q3, q4, rfl, q5, q6⟩ := hlk d' x hx
        have := (castR_holds ks (h.hg.holds d x0 q4)).ren hle f.to p hto q6 (castR_say p ks x0 (hsay d x0 (by rw [q3]; simp) q4))
        rw [q5] at this
        exact this
      · intro d' d'' x x' b o hne hx hx' hfo hfo'
        obtain ⟨d, ks, x0, q3, q4, rfl, q5, q6⟩ := hlk d' x hx
        obtain ⟨e, ks', x1, r3, r4, rfl, r5, r6⟩ := hlk d'' x' hx'
        rw [hfoot d d' x0 _ ks q5 q6] at hfo
        rw [hfoot e d'' x1 _ ks' r5 r6] at hfo'
        exact h.hg.dis d e x0 x1 b o (fun hde => hne (by rw [← q5, ← r5, hde])) q4 r4 hfo hfo'
      · intro d' cs h6 hx
        obtain ⟨d, ks, x0, q3, q4, q7, q5, q6⟩ := hlk d' _ hx
        have hbx : ∃ cs0, x0 = .box cs0 := by
          cases x0 with
          | box cs0 => exact ⟨cs0, rfl⟩
          | row e s n xs => cases q7
          | spare e s n => cases q7
        have hdd : d = d' := by
          rcases (hds _ (look_mem q3)).2.1 with h7 | h7 | h7
          · simp only at h7; omega
          · exact h7
          · obtain ⟨cs0, rfl⟩ := hbx
            exact absurd q4 (h7 cs0)
        have h8 := (hto d q6).1
        rw [q5] at h8
        rw [h8]
        subst hdd
        cases x0 with
        | box cs0 => exact h.hg.fix d cs0 h6 q4
        | row e s n xs => cases q7
        | spare e s n => cases q7
      · intro d' x hx hb b o hfo
        obtain ⟨d, ks, x0, q3, q4, rfl, q5, q6⟩ := hlk d' x hx
        rw [hfoot d d' x0 _ ks q5 q6] at hfo
        exact h.hg.new d x0 q4 (by cases x0 <;> simp_all [castR, Res.isBox, Res.map]) b o hfo
      · obtain ⟨ks, v0, q1, q2, rfl⟩ := pickT_look f.ts hT t v hv
        obtain ⟨u, q3, q4⟩ := h.tmps t v0 q2
        have q5 := hok2 _ q1
        simp only [q2] at q5
        exact ⟨u, q3, (castV_rel ks q4).imp (fun v x hx k => k.ren hle f.to p hto hx) (castV_say p ks v0 q5)⟩
    · cases hf
  · cases hf

section
variable {P : Program} {K : Ctx} {n : Nat} {Q : Exit → St → Prop} {C : Cfg}
theorem TS_fit (f : Fit) (s' : St) (h : fitS f C.st = some s') (he : C.pre = true) (k : TS P K n (C.withS s') Q) : TS P K n C Q := TS_state s' (fun _ _ r => r.fit f h) he k
def Cfg.fit (C : Cfg) (f : Fit) : Cfg := match fitS f C.st with
  | some s' => C.withS s'
  | none => .bad
theorem TS_fitU (f : Fit) (he : C.pre = true) (k : TS P K n (C.fit f) Q) : TS P K n C Q := by
  unfold Cfg.fit at k
  split at k
  · rename_i s' h; exact TS_fit f s' h he k
  · exact k.elim

/-! ### states that differ from a state in some places -/
def St.overs (s : St) (ts : List (Nat × SV)) (ds : List (Nat × Res)) : St := { tmps := ts.foldl (fun l p => setL p.1 p.2 l) s.tmps, hp := ds.foldl (fun l p => setL p.1 p.2 l) s.hp }

/-! ### ways that meet -/
def Cfg.fs : Cfg → List Fr
  | .mk fs _ _ => fs
  | .bad => []
def Cfg.rest : Cfg → List Fr
  | .mk (_ :: fs) _ _ => fs
  | _ => []
def joinQ (P : Program) (K : Ctx) (n : Nat) (fs : List Fr) (Q : Exit → St → Prop) {X ρ : Type} (S : X → St) (j : X → Option ρ) (r : ρ) : Exit → St → Prop
  | .normal, s => ∃ v, j v = some r ∧ ∀ a w, R K n a w s → R K n a w (S v)
  | e, s => QS P K n fs Q e s
def Cfg.seq1 : Cfg → Cfg
  | .mk (.code (.seq x _) :: _) .normal s => .mk [.code x] .normal s
  | _ => .bad
def Cfg.seq2 (C : Cfg) (s : St) : Cfg := match C with
  | .mk (.code (.seq _ y) :: fs) .normal _ => .mk (.code y :: fs) .normal s
  | _ => .bad
theorem T_joinR {x y : Code} {s : St} {X : Type} {ρ : Type} (S : X → St) (j : X → Option ρ) (r : ρ) {fs : List Fr} (hj : ∀ v, j v = some r → T P K n y (S v) (QS P K n fs Q)) (hx : T P K n x s (joinQ P K n fs Q S j r)) : T P K n (.seq x y) s (QS P K n fs Q) := fun a w rr =>
  wp_seq (wp_mono (hx a w rr) fun e a' w' ⟨s', r', q⟩ => by
    cases e <;> simp only [joinQ] at q <;> simp only [Exit.then]
    case normal =>
      obtain ⟨v, h1, h2⟩ := q
      exact hj v h1 a' w' (h2 a' w' r')
    all_goals exact ⟨s', r', q⟩)
theorem TS_join {X ρ : Type} (S : X → St) (j : X → Option ρ) (r : ρ) (hj : ∀ v, j v = some r → TS P K n (C.seq2 (S v)) Q) (hx : TS P K n C.seq1 (joinQ P K n C.rest Q S j r)) : TS P K n C Q := by
  unfold Cfg.seq1 at hx
  split at hx
  · exact T_joinR S j r hj hx
  · exact hx.elim
/-- the end of a way -/
def Cfg.ended : Cfg → Bool
  | .mk [] .normal _ => true
  | _ => false
def Cfg.out (C : Cfg) (fs : List Fr) : Cfg := match C with
  | .mk [] e s => .mk fs e s
  | _ => .bad
def Cfg.abn : Cfg → Bool
  | .mk [] .ret _ => true
  | .mk [] (.exit _) _ => true
  | _ => false
theorem TS_meet {X ρ : Type} {S : X → St} {j : X → Option ρ} {r : ρ} {fs : List Fr} (v : X) (f : Fit) (hj : j v = some r) (he : C.ended = true) (hf : fitS f C.st = some (S v)) : TS P K n C (joinQ P K n fs Q S j r) := by
  unfold Cfg.ended at he
  split at he
  · exact ⟨v, hj, fun a w rr => rr.fit f hf⟩
  · cases he
theorem TS_outJ {X ρ : Type} {S : X → St} {j : X → Option ρ} {r : ρ} {fs : List Fr} (he : C.abn = true) (k : TS P K n (C.out fs) Q) : TS P K n C (joinQ P K n fs Q S j r) := by
  unfold Cfg.abn at he
  split at he
  · exact k
  · exact k
  · cases he
end

/-! ### loops -/
section
variable {σ ρ : Type}
def iterO (step : σ → Option (σ ⊕ ρ)) : Nat → σ → Option ρ
  | 0, _ => none
  | n + 1, s => match step s with
    | some (.inl s') => iterO step n s'
    | some (.inr r) => some r
    | none => none
theorem iterO_mono {step : σ → Option (σ ⊕ ρ)} : ∀ {n m : Nat} {s : σ} {r : ρ}, iterO step n s = some r → n ≤ m → iterO step m s = some r
  | 0, _, _, _, h, _ => by cases h
  | n + 1, 0, _, _, _, hm => by omega
  | n + 1, m + 1, s, r, h, hm => by
    simp only [iterO] at h ⊢
    split at h
    · exact iterO_mono h (by omega)
    · exact h
    · cases h
open Classical in
noncomputable def loopO (step : σ → Option (σ ⊕ ρ)) (s : σ) : Option ρ := if h : ∃ r n, iterO step n s = some r then some (Classical.choose h) else none
theorem loopO_of {step : σ → Option (σ ⊕ ρ)} {s : σ} {r : ρ} {n : Nat} (h : iterO step n s = some r) : loopO step s = some r := by
  have hx : ∃ r n, iterO step n s = some r := ⟨r, n, h⟩
  unfold loopO
  rw [dif_pos hx]
  obtain ⟨m, hm⟩ := Classical.choose_spec hx
  congr 1
  have h1 := iterO_mono hm (Nat.le_max_left m n)
  have h2 := iterO_mono h (Nat.le_max_right m n)
  rw [h1] at h2
  exact Option.some.inj h2
theorem loopO_some {step : σ → Option (σ ⊕ ρ)} {s : σ} {r : ρ} (h : loopO step s = some r) : ∃ n, iterO step n s = some r := by
  unfold loopO at h
  split at h
  · rename_i hx
    cases h
    exact Classical.choose_spec hx
  · cases h
theorem loopO_eq (step : σ → Option (σ ⊕ ρ)) (s : σ) : loopO step s = match step s with
    | some (.inl s') => loopO step s'
    | some (.inr r) => some r
    | none => none := by
  cases hs : step s with
  | none =>
    cases hl : loopO step s with
    | none => rfl
    | some r =>
      obtain ⟨n, hn⟩ := loopO_some hl
      cases n with
      | zero => cases hn
      | succ n => simp [iterO, hs] at hn
  | some x =>
    cases x with
    | inr r => exact loopO_of (n := 1) (by simp [iterO, hs])
    | inl s' =>
      simp only
      cases hl : loopO step s' with
      | some r =>
        obtain ⟨n, hn⟩ := loopO_some hl
        exact loopO_of (n := n + 1) (by simp [iterO, hs, hn])
      | none =>
        cases hl2 : loopO step s with
        | none => rfl
        | some r =>
          obtain ⟨n, hn⟩ := loopO_some hl2
          cases n with
          | zero => cases hn
          | succ n =>
            simp only [iterO, hs] at hn
            rw [loopO_of hn] at hl
            cases hl

def loopQ (P : Program) (K : Ctx) (n : Nat) (fs : List Fr) (Q : Exit → St → Prop) (I : σ → St) (x : σ ⊕ ρ) : Exit → St → Prop
  | .normal, st => ∃ s', x = .inl s' ∧ ∀ a w, R K n a w st → R K n a w (I s')
  | e, st => (∃ y, x = .inr y) ∧ QS P K n fs Q e st
variable {P : Program} {K : Ctx} {n : Nat} {Q : Exit → St → Prop} {C : Cfg}
def Cfg.body (C : Cfg) (s : St) : Cfg := match C with
  | .mk (.code (.loop c) :: _) .normal _ => .mk [.code c] .normal s
  | _ => .bad
def Cfg.isLoop : Cfg → Bool
  | .mk (.code (.loop _) :: _) .normal _ => true
  | _ => false
theorem TS_loop (step : σ → Option (σ ⊕ ρ)) (I : σ → St) (s0 : σ) (r : ρ) (hr : loopO step s0 = some r) (f : Fit) (hC : C.isLoop = true) (h0 : fitS f C.st = some (I s0))
    (hbody : ∀ s x, step s = some x → (∀ y, x = .inr y → y = r) → TS P K n (C.body (I s)) (loopQ P K n C.rest Q I x)) : TS P K n C Q := by
  unfold Cfg.isLoop at hC
  split at hC
  · rename_i c fs st
    simp only [Cfg.body, Cfg.rest, Cfg.st] at hbody h0
    obtain ⟨m, hm⟩ := loopO_some hr
    have main : T P K n (.loop c) (I s0) (QS P K n fs Q) := by
      refine T_loop (ι := Nat × σ) (fun p s => iterO step p.1 p.2 = some r ∧ ∀ a w, R K n a w s → R K n a w (I p.2)) (fun p => p.1) (m, s0) ⟨hm, fun _ _ x => x⟩ ?_
      rintro ⟨k, s⟩ st' ⟨hk, hR⟩
      cases k with
      | zero => cases hk
      | succ k =>
        simp only [iterO] at hk
        cases hs : step s with
        | none => rw [hs] at hk; cases hk
        | some x =>
          rw [hs] at hk
          have hb := hbody s x hs (fun y hy => by subst hy; simpa using hk)
          have hb2 : T P K n c st' (loopQ P K n fs Q I x) := fun a w rr => hb a w (hR a w rr)
          refine T_mono hb2 fun e st'' hq => ?_
          cases e with
          | normal =>
            obtain ⟨s', rfl, h2⟩ := hq
            exact ⟨(k, s'), ⟨hk, h2⟩, Nat.lt_succ_self k⟩
          | exit i => exact hq.2
          | goto i => exact hq.2
          | ret => exact hq.2
          | panic i => exact hq.2
          | outgrown => exact hq.2
    exact fun a w rr => main a w (rr.fit f h0)
  · cases hC
theorem TS_again {I : σ → St} {x : σ ⊕ ρ} {fs : List Fr} (s' : σ) (f : Fit) (hx : x = .inl s') (he : C.ended = true) (hf : fitS f C.st = some (I s')) : TS P K n C (loopQ P K n fs Q I x) := by
  unfold Cfg.ended at he
  split at he
  · exact ⟨s', hx, fun a w rr => rr.fit f hf⟩
  · cases he
theorem TS_outL {I : σ → St} {x : σ ⊕ ρ} {fs : List Fr} (y : ρ) (hx : x = .inr y) (he : C.abn = true) (k : TS P K n (C.out fs) Q) : TS P K n C (loopQ P K n fs Q I x) := by
  unfold Cfg.abn at he
  split at he
  · exact ⟨⟨y, hx⟩, k⟩
  · exact ⟨⟨y, hx⟩, k⟩
  · cases he
end

/-! ### the ends of a function -/
def Cfg.fin : Cfg → Bool
  | .mk [] .normal _ => true
  | .mk [] .ret _ => true
  | _ => false
theorem TS_ret {P : Program} {K : Ctx} {n : Nat} {C : Cfg} {fn : Func} {kss : List (List Nat)} {spec : List (Nat × List Nat)} {r : SV} {h' : Hp} (he : C.fin = true) (h : (resL P C.st kss fn.results.toList).bind resV = some r) (hh : pickH C.st.hp spec = some h') : TS P K n C (retC P fn kss spec r h') := by
  obtain ⟨xs, h1, h2⟩ := Option.bind_eq_some_iff.1 h
  unfold Cfg.fin at he
  split at he
  · exact ⟨⟨xs, h1, h2⟩, hh⟩
  · exact ⟨⟨xs, h1, h2⟩, hh⟩
  · cases he

/-! ### operations by rules -/
section
variable {P : Program} {K : Ctx} {n : Nat} {Q : Exit → St → Prop} {C : Cfg}
/-- the operation that stands next -/
def Cfg.op : Cfg → Option (Array Oper × Oper)
  | .mk (.ops os (o :: _) :: _) .normal _ => some (os, o)
  | _ => none
def Cfg.next (C : Cfg) (s' : St) : Cfg := match C with
  | .mk (.ops os (_ :: l) :: fs) .normal _ => .mk (.ops os l :: fs) .normal s'
  | _ => .bad
theorem TS_stp {os : Array Oper} {o : Oper} {s' : St} (ho : C.op = some (os, o)) (h : Stp P K n os o C.st s') (k : TS P K n (C.next s') Q) : TS P K n C Q := by
  unfold Cfg.op at ho
  split at ho
  · cases ho; exact TL_stp h k
  · cases ho
/-- the operation is wanted, and its place is there -/
def Cfg.go1 (n : Nat) (C : Cfg) : Bool := match C.op with
  | some (os, o) => (match guardOf os o C.st with | some true => true | _ => false) && dstOk n o
  | none => false
def Cfg.dst (C : Cfg) : Option Tmp := match C.op with
  | some (_, o) => o.dst
  | none => none
def Cfg.ret (C : Cfg) (v : SV) : Cfg := C.next (C.st.put C.dst v)
theorem go1_spec (h : C.go1 n = true) : ∃ os o, C.op = some (os, o) ∧ guardOf os o C.st = some true ∧ dstOk n o = true ∧ C.dst = o.dst := by
  unfold Cfg.go1 at h
  split at h
  · rename_i os o ho
    simp only [Bool.and_eq_true] at h
    refine ⟨os, o, ho, ?_, h.2, by simp [Cfg.dst, ho]⟩
    have h1 := h.1
    split at h1
    · assumption
    · cases h1
  · cases h
/-- an operation that makes a value, and maybe memory -/
theorem TS_val (v : SV) (hg : C.go1 n = true) (hp : ∀ os o, C.op = some (os, o) → GrowOp P o C.st v) (k : TS P K n (C.ret v) Q) : TS P K n C Q := by
  obtain ⟨os, o, ho, h1, h2, h3⟩ := go1_spec hg
  refine TS_stp ho (S_grow v h1 h2 (hp os o ho)) ?_
  rw [← h3]
  exact k
def Cfg.callee (C : Cfg) (kss : List (List Nat)) : Option (FuncId × List SV) := match C.op with
  | some (_, o) => match calleeOf C.st o with
    | some (f, vs) => some (f, castArgs kss vs)
    | none => none
  | none => none
theorem callee_op {kss : List (List Nat)} {f : FuncId} {A : List SV} (h : C.callee kss = some (f, A)) {os : Array Oper} {o : Oper} (ho : C.op = some (os, o)) : ∃ vs, calleeOf C.st o = some (f, vs) ∧ castArgs kss vs = A := by
  unfold Cfg.callee at h
  rw [ho] at h
  simp only at h
  split at h
  · rename_i f' vs hv; cases h; exact ⟨vs, hv, rfl⟩
  · cases h
theorem TS_call {f : FuncId} {A : List SV} {r : SV} (kss : List (List Nat)) (hp : Con P f A [] r []) (hc : C.callee kss = some (f, A)) (hg : (C.go1 n && hasBody P f && r.every SC.closed) = true) (k : TS P K n (C.ret r) Q) : TS P K n C Q := by
  simp only [Bool.and_eq_true] at hg
  refine TS_val r hg.1.1 (fun os o ho => ?_) k
  obtain ⟨vs, h1, h2⟩ := callee_op hc ho
  exact grow_con kss h1 hg.1.2 h2 hg.2 hp
/-- a call with a variable behind a pointer -/
def pdOk (s : St) (h h' : Hp) (news : List (Nat × Nat)) : Option (Nat × Nat) → Bool
  | some (d, off) => match look s.hp d, h, look h' 1000000 with
    | some (.box csD), [(1000000, .box cs)], some (.box cs') => cs.all SC.closed && cs'.all SC.closed && decide (cs'.length = cs.length) && decide (off + cs.length ≤ csD.length) && (look news d).isNone
    | _, _, _ => false
  | none => h.isEmpty
def windowOf (s : St) (h : Hp) : Option (Nat × Nat) → List SC × List SC
  | some (d, off) => match look s.hp d, h with
    | some (.box csD), [(_, .box cs)] => ((csD.drop off).take cs.length, cs)
    | _, _ => ([], [])
  | none => ([], [])
theorem pdOk_spec {s : St} {h h' : Hp} {news : List (Nat × Nat)} {pd : Option (Nat × Nat)} (hk : pdOk s h h' news pd = true) (hw : (windowOf s h pd).1 = (windowOf s h pd).2) : PdOk s h h' news pd := by
  cases pd with
  | none => simpa [pdOk, PdOk] using hk
  | some p =>
    obtain ⟨d, off⟩ := p
    simp only [pdOk] at hk
    split at hk
    · rename_i csD cs cs' h1 h2
      simp only [Bool.and_eq_true, decide_eq_true_eq, Option.isNone_iff_eq_none] at hk
      refine ⟨csD, cs, cs', h1, rfl, h2, hk.1.1.1.1, hk.1.1.1.2, ?_, hk.1.1.2, hk.1.2, hk.2⟩
      simpa [windowOf, h1] using hw
    · cases hk
theorem TS_con {f : FuncId} {A : List SV} {r : SV} {h h' : Hp} (kss : List (List Nat)) (news : List (Nat × Nat)) (pd : Option (Nat × Nat)) (hp : Con P f A h r h') (hc : C.callee kss = some (f, argsFor pd A)) (hg : (C.go1 n && hasBody P f && A.all (okFor pd) && pdOk C.st h h' news pd && newsOk C.st h' r news C.dst) = true) (hw : (windowOf C.st h pd).1 = (windowOf C.st h pd).2)
    (k : TS P K n (C.next (C.st.after h' r news pd C.dst)) Q) : TS P K n C Q := by
  simp only [Bool.and_eq_true] at hg
  obtain ⟨⟨⟨⟨hg1, hg2⟩, hg3⟩, hg4⟩, hg5⟩ := hg
  obtain ⟨os, o, ho, h1, h2, h3⟩ := go1_spec hg1
  obtain ⟨vs, h4, h5⟩ := callee_op hc ho
  rw [h3] at k hg5
  exact TS_stp ho (S_con kss news pd h1 h2 h4 hg2 h5 hg3 (pdOk_spec hg4 hw) hg5 hp) k
end
end Go.Proofs.Ytohfnlkjdjmipaa
