/-
  SHADOWS, second make: ways that meet and loops, their states told by where they differ from the state before.
-/
import Derived.Test.YtohfnlkjdjmipaaV8
namespace Go.Proofs.Ytohfnlkjdjmipaa
open Go.RowKit

def baseS (f : Fit) (s : St) : St := match fitS f s with
  | some s' => s'
  | none => ⟨[], []⟩
section
variable {P : Program} {K : Ctx} {n : Nat} {Q : Exit → St → Prop} {C : Cfg} {X ρ σ B : Type}
theorem TS_joinB (f : Fit) (tv : X → List (Nat × SV)) (rv : X → List (Nat × Res)) (j : X → Option ρ) (r : ρ) (hj : ∀ v, j v = some r → TS P K n (C.seq2 ((baseS f C.st).overs (tv v) (rv v))) Q)
    (hx : TS P K n C.seq1 (joinQ P K n C.rest Q (fun v => (baseS f C.st).overs (tv v) (rv v)) j r)) : TS P K n C Q := TS_join _ j r hj hx
theorem T_monoR {c : Code} {s : St} {Q' : Exit → St → Prop} (h : T P K n c s Q) (k : ∀ e s, Q e s → ∃ s', (∀ a w, R K n a w s → R K n a w s') ∧ Q' e s') : T P K n c s Q' := fun a w r =>
  wp_mono (h a w r) fun _e _a' _w' ⟨_s', r', q⟩ => let ⟨s'', h1, h2⟩ := k _ _ q; ⟨s'', h1 _ _ r', h2⟩
def loopQB (P : Program) (K : Ctx) (n : Nat) (fs : List Fr) (Q : Exit → St → Prop) (I : σ → St) (x : σ ⊕ ρ) (e0 : Exit) (inB : B → ρ) (SB : B → St) : Exit → St → Prop
  | .normal, st => ∃ s', x = .inl s' ∧ ∀ a w, R K n a w st → R K n a w (I s')
  | e, st => (e = e0 ∧ ∃ b, x = .inr (inB b) ∧ ∀ a w, R K n a w st → R K n a w (SB b)) ∨ ((∃ y, x = .inr y) ∧ QS P K n fs Q e st)
theorem TS_loopB (step : σ → Option (σ ⊕ ρ)) (f : Fit) (tv : σ → List (Nat × SV)) (rv : σ → List (Nat × Res)) (s0 : σ) (y0 : ρ) (e0 : Exit) (inB : B → ρ) (fB : Fit) (tB : B → List (Nat × SV)) (rB : B → List (Nat × Res)) (hr : loopO step s0 = some y0) (hC : C.isLoop = true) (h0 : fitS f C.st = some ((baseS f C.st).overs (tv s0) (rv s0)))
    (hbody : ∀ s x, step s = some x → (∀ y, x = .inr y → y = y0) → TS P K n (C.body ((baseS f C.st).overs (tv s) (rv s))) (loopQB P K n C.rest Q (fun s => (baseS f C.st).overs (tv s) (rv s)) x e0 inB (fun b => (baseS fB C.st).overs (tB b) (rB b))))
    (hrest : ∀ b, y0 = inB b → TS P K n (.mk C.rest e0 ((baseS fB C.st).overs (tB b) (rB b))) Q) : TS P K n C Q := by
  unfold Cfg.isLoop at hC
  split at hC
  · rename_i c fs st
    simp only [Cfg.body, Cfg.rest, Cfg.st] at hbody h0 hrest
    obtain ⟨m, hm⟩ := loopO_some hr
    generalize hI : (fun s => (baseS f st).overs (tv s) (rv s)) = I at hbody
    have hI' : ∀ s, (baseS f st).overs (tv s) (rv s) = I s := fun s => by rw [← hI]
    simp only [hI'] at h0 hbody
    have main : T P K n (.loop c) (I s0) (QS P K n fs Q) := by
      refine T_loop (ι := Nat × σ) (fun p s => iterO step p.1 p.2 = some y0 ∧ ∀ a w, R K n a w s → R K n a w (I p.2)) (fun p => p.1) (m, s0) ⟨hm, fun _ _ x => x⟩ ?_
      rintro ⟨k, s⟩ st' ⟨hk, hR⟩
      cases k with
      | zero => cases hk
      | succ k =>
        simp only [iterO] at hk
        cases hs : step s with
        | none => rw [hs] at hk; cases hk
        | some x =>
          rw [hs] at hk
          have hb := hbody s x hs (fun y hy => by subst hy; simpa using hk)
          have hb2 := fun a w rr => hb a w (hR a w rr)
          refine T_monoR (Q := _) hb2 fun e st'' hq => ?_
          have fin : ∀ e, e ≠ .normal → ((e = e0 ∧ ∃ b, x = .inr (inB b) ∧ ∀ a w, R K n a w st'' → R K n a w ((baseS fB st).overs (tB b) (rB b))) ∨ ((∃ y, x = .inr y) ∧ QS P K n fs Q e st'')) → ∃ s', (∀ a w, R K n a w st'' → R K n a w s') ∧ QS P K n fs Q e s' := by
            rintro e _ (⟨rfl, b, h2, h3⟩ | ⟨_, h2⟩)
            · subst h2
              exact ⟨_, h3, hrest b (by simpa using hk.symm)⟩
            · exact ⟨_, fun _ _ x => x, h2⟩
          cases e with
          | normal =>
            obtain ⟨s', rfl, h2⟩ := hq
            exact ⟨st'', fun _ _ x => x, (k, s'), ⟨hk, h2⟩, Nat.lt_succ_self k⟩
          | exit i => exact fin _ (by simp) hq
          | goto i => exact fin _ (by simp) hq
          | ret => exact fin _ (by simp) hq
          | panic i => exact fin _ (by simp) hq
          | outgrown => exact fin _ (by simp) hq
    exact fun a w rr => main a w (rr.fit f h0)
  · cases hC
variable {fs : List Fr} {I : σ → St} {x : σ ⊕ ρ} {e0 : Exit} {inB : B → ρ} {SB : B → St}
theorem TS_againB (s' : σ) (f : Fit) (hx : x = .inl s') (he : C.ended = true) (hf : fitS f C.st = some (I s')) : TS P K n C (loopQB P K n fs Q I x e0 inB SB) := by
  unfold Cfg.ended at he
  split at he
  · exact ⟨s', hx, fun a w rr => rr.fit f hf⟩
  · cases he
theorem TS_retB {y : ρ} (hx : x = .inr y) (he : C.abn = true) (k : TS P K n (C.out fs) Q) : TS P K n C (loopQB P K n fs Q I x e0 inB SB) := by
  unfold Cfg.abn at he
  split at he
  · exact .inr ⟨⟨y, hx⟩, k⟩
  · exact .inr ⟨⟨y, hx⟩, k⟩
  · cases he
def Cfg.ex : Cfg → Exit
  | .mk _ e _ => e
  | .bad => .outgrown
theorem TS_brkB (b : B) (f : Fit) (hx : x = .inr (inB b)) (he : C.abn = true) (hE : C.ex = e0) (hf : fitS f C.st = some (SB b)) : TS P K n C (loopQB P K n fs Q I x e0 inB SB) := by
  unfold Cfg.abn at he
  split at he
  · exact .inl ⟨hE, b, hx, fun a w rr => rr.fit f hf⟩
  · exact .inl ⟨hE, b, hx, fun a w rr => rr.fit f hf⟩
  · cases he
theorem elimL {α β γ : Type} {f : α → Option γ} {g : β → Option γ} {a : α} {r : γ} (h : Sum.elim f g (Sum.inl a) = some r) : f a = some r := h
theorem elimR {α β γ : Type} {f : α → Option γ} {g : β → Option γ} {a : β} {r : γ} (h : Sum.elim f g (Sum.inr a) = some r) : g a = some r := h

/-! ### checked operations on numbers, arrays at a computed place -/
def chkArgs (_P : Program) (s : St) (o : Oper) : Option (BinOp × IntKind × IntKind × Int × Int) := match o.op with
  | .binOp op _ x y _ => match opd s x, opd s y with
    | some (.c (.lit (.int k m))), some (.c (.lit (.int k' i))) => some (op, k, k', m, i)
    | _, _ => none
  | _ => none
theorem TS_num {op : BinOp} {k k' : IntKind} {m i : Int} {v : SV} {p : Prop} (hp : p) (hv : intBinC op k m i = some (v, p)) (hk : op = .shl ∨ op = .shr ∨ k' = k) (h : C.with1 (chkArgs P) = some (op, k, k', m, i)) (hg : C.go1 n = true) (kk : TS P K n (C.ret v) Q) : TS P K n C Q := by
  refine TS_val v hg (fun os o ho => ?_) kk
  have h1 := with1_op h ho
  unfold chkArgs at h1
  split at h1
  · rename_i op' t x y t' ho'
    split at h1
    · rename_i k1 m1 k2 i1 hx hy
      cases h1
      exact (pure_intC m i hk ho' hx hy hv hp).grow
    · cases h1
  · cases h1
end
end Go.Proofs.Ytohfnlkjdjmipaa
