/-
  SHADOWS, second make: the machine that goes through plain code, reckoned by the kernel.
-/
import Derived.Test.YtohfnlkjdjmipaaV3
namespace Go.Proofs.Ytohfnlkjdjmipaa
open Go.RowKit

/-! ### the rules of control -/
section
variable {P : Program} {K : Ctx} {n : Nat} {Q : Exit → St → Prop} {s : St}
def thenQ (next : St → Prop) (Q : Exit → St → Prop) : Exit → St → Prop
  | .normal, s => next s
  | e, s => Q e s
def blockQ (id : Nat) (Q : Exit → St → Prop) : Exit → St → Prop
  | .exit i, s => if i = id then Q .normal s else Q (.exit i) s
  | e, s => Q e s
theorem T_skip (h : Q .normal s) : T P K n .skip s Q := fun _ _ r => wp_skip ⟨s, r, h⟩
theorem T_ret (h : Q .ret s) : T P K n .ret s Q := fun _ _ r => wp_ret ⟨s, r, h⟩
theorem T_exit {id : Nat} (h : Q (.exit id) s) : T P K n (.exit id) s Q := fun _ _ r => wp_exit ⟨s, r, h⟩
theorem T_seq {x y : Code} (h : T P K n x s (thenQ (fun s' => T P K n y s' Q) Q)) : T P K n (.seq x y) s Q := fun a w r =>
  wp_seq (wp_mono (h a w r) fun e a' w' ⟨s', r', q⟩ => by
    cases e <;> simp only [thenQ] at q <;> simp only [Exit.then]
    case normal => exact q a' w' r'
    all_goals exact ⟨s', r', q⟩)
theorem T_block {id : Nat} {c : Code} (h : T P K n c s (blockQ id Q)) : T P K n (.block id c) s Q := fun a w r =>
  wp_block (wp_mono (h a w r) fun e a' w' hq => by
    obtain ⟨s', r', q⟩ := hq
    cases e with
    | exit i =>
      simp only [blockQ] at q
      simp only [Exit.inBlock]
      by_cases hi : i = id
      · rw [if_pos hi] at q ⊢; exact ⟨s', r', q⟩
      · rw [if_neg hi] at q ⊢; exact ⟨s', r', q⟩
    | _ => exact ⟨s', r', q⟩)
theorem T_mono {c : Code} {Q' : Exit → St → Prop} (h : T P K n c s Q) (k : ∀ e s, Q e s → Q' e s) : T P K n c s Q' := fun a w r =>
  wp_mono (h a w r) fun _e _a' _w' ⟨s', r', q⟩ => ⟨s', r', k _ _ q⟩
theorem T_loop {c : Code} {ι : Type} (I : ι → St → Prop) (μ : ι → Nat) (i : ι) (hi : I i s) (h : ∀ i s, I i s → T P K n c s (thenQ (fun s' => ∃ j, I j s' ∧ μ j < μ i) Q)) : T P K n (.loop c) s Q := by
  intro a w r b k cs
  have key : ∀ m i s a w, μ i = m → I i s → R K n a w s → ∃ e a' w', Post K n Q e a' w' ∧ Arrives P (lone (b.at a (.code c :: .inLoop c :: k)) cs w) b k cs e a' w' := by
    intro m
    induction m using Nat.strongRecOn with
    | _ m ih =>
      intro i s a w hm hj hr
      obtain ⟨e, a₁, w₁, ⟨s1, r1, hq⟩, harr⟩ := h i s hj a w hr b (.inLoop c :: k) cs
      cases e with
      | normal =>
        obtain ⟨j, hj', hlt⟩ := hq
        obtain ⟨e₂, a₂, w₂, hq₂, harr₂⟩ := ih (μ j) (hm ▸ hlt) j s1 a₁ w₁ rfl hj' r1
        exact ⟨e₂, a₂, w₂, hq₂, .of_steps (Steps.trans harr (.one step_inLoop)) harr₂⟩
      | exit id => exact ⟨_, a₁, w₁, ⟨s1, r1, hq⟩, .pass (x := .inLoop c) rfl (fun _ _ => .inl (by simp)) harr⟩
      | goto l => exact ⟨_, a₁, w₁, ⟨s1, r1, hq⟩, .pass (x := .inLoop c) rfl (fun _ _ => .inl (by simp)) harr⟩
      | ret => exact ⟨_, a₁, w₁, ⟨s1, r1, hq⟩, .pass (x := .inLoop c) rfl (fun _ _ => .inl (by simp)) harr⟩
      | panic ch => exact ⟨_, a₁, w₁, ⟨s1, r1, hq⟩, .pass (x := .inLoop c) rfl (fun _ _ => .inl (by simp)) harr⟩
      | outgrown => exact ⟨_, a₁, w₁, ⟨s1, r1, hq⟩, .pass (x := .inLoop c) rfl (fun _ _ => .inl (by simp)) harr⟩
  obtain ⟨e, a', w', hq, harr⟩ := key _ i s a w rfl hi r
  exact ⟨e, a', w', hq, .of_steps (.one step_loop) harr⟩
theorem T_cond {c : Operand} {x y : Code} (b : Bool) (hc : opd s c = some (.c (.lit (.bool b)))) (h : T P K n (if b then x else y) s Q) : T P K n (.cond c x y) s Q := by
  intro a w r
  obtain ⟨g, hg⟩ := r
  have h2 : a.eval c = .bool b := rel_lit (hg.view.opd hc)
  exact wp_cond h2 (h a w ⟨g, hg⟩)
theorem T_region {id : Nat} {l : List Oper} (h : TL P K n l.toArray l s Q) : T P K n (.region id l.toArray false) s Q := fun a w r => wp_region_lit (h a w r)
end

/-! ### one operation -/
def stepS (P : Program) (n : Nat) (ops : Array Oper) (o : Oper) (s : St) : Option St := match guardOf ops o s with
  | some false => if dstOk n o then some (s.put o.dst (.tup [])) else none
  | some true => match o.op with
    | .box _ x => match o.dst, opd s x with
      | some d, some v => match cellsOf v with
        | some cs => if decide (d < n) && decide (d < 1000000) && s.noname d (some d) && cs.all (SC.say (· != d)) then some (s.newBox d cs) else none
        | none => none
      | _, _ => none
    | .alloc t => match o.dst, (P.info? t).bind (·.zero) with
      | some d, some z => if decide (d < n) && decide (d < 1000000) && s.noname d (some d) then some (s.newBox d (z.cells.toList.map SC.lit)) else none
      | _, _ => none
    | .store t p x => match o.dst, opd s p, opd s x with
      | none, some (.c (.box d off)), some v => match cellsOf v, s.lookB d, P.info? t with
        | some ds, some cs, some i => if decide (i.size = ds.length) && ds.all SC.one && decide (off + ds.length ≤ cs.length) then some (s.setR d (.box (over cs off ds))) else none
        | _, _, _ => none
      | _, _, _ => none
    | _ => match sop P s o.op with
      | some v => if dstOk n o then some (s.put o.dst v) else none
      | none => none
  | none => none
theorem stepS_ok {P : Program} {K : Ctx} {n : Nat} {ops : Array Oper} {o : Oper} {s s' : St} (h : stepS P n ops o s = some s') : Stp P K n ops o s s' := by
  unfold stepS at h
  split at h
  · rename_i hg
    split at h
    · rename_i hd; cases h; exact S_skip hg hd
    · cases h
  · rename_i hg
    split at h
    · rename_i t x ho
      split at h
      · rename_i d v hd hx
        split at h
        · rename_i cs hcs
          split at h
          · rename_i hc
            simp only [Bool.and_eq_true, decide_eq_true_eq] at hc
            cases h
            exact S_box d ho hd hg hc.1.1.1 hc.1.1.2 hx hcs (noname_spec hc.1.2) hc.2
          · cases h
        · cases h
      · cases h
    · rename_i t ho
      split at h
      · rename_i d z hd hz
        split at h
        · rename_i hc
          simp only [Bool.and_eq_true, decide_eq_true_eq] at hc
          cases h
          exact S_alloc d _ ho hd hg hc.1.1 hc.1.2 hz rfl (noname_spec hc.2)
        · cases h
      · cases h
    · rename_i t p x ho
      split at h
      · rename_i d off v hd hp hx
        split at h
        · rename_i ds cs i hds hcs hi
          split at h
          · rename_i hc
            simp only [Bool.and_eq_true, decide_eq_true_eq] at hc
            cases h
            exact S_store d off cs ds ho hd hg hp hx hds hcs (by rw [hi]; exact congrArg some hc.1.1) hc.1.2 hc.2
          · cases h
        · cases h
      · cases h
    · split at h
      · rename_i v hv
        split at h
        · rename_i hd; cases h; exact S_grow v hg hd (sop_ok hv).grow
        · cases h
      · cases h
  · cases h

/-! ### the machine -/
inductive Fr where
  | code (c : Code)
  | blk (id : Nat)
  | ops (ops : Array Oper) (l : List Oper)
inductive Cfg where
  | mk (fs : List Fr) (e : Exit) (s : St)
  | bad
def QS (P : Program) (K : Ctx) (n : Nat) : List Fr → (Exit → St → Prop) → Exit → St → Prop
  | [], Q => Q
  | .code c :: fs, Q => thenQ (fun s => T P K n c s (QS P K n fs Q)) (QS P K n fs Q)
  | .blk id :: fs, Q => blockQ id (QS P K n fs Q)
  | .ops os l :: fs, Q => thenQ (fun s => TL P K n os l s (QS P K n fs Q)) (QS P K n fs Q)
def TS (P : Program) (K : Ctx) (n : Nat) (C : Cfg) (Q : Exit → St → Prop) : Prop := match C with
  | .mk fs e s => QS P K n fs Q e s
  | .bad => False

def stepC (P : Program) (n : Nat) : Cfg → Cfg
  | .bad => .bad
  | .mk [] _ _ => .bad
  | .mk (.code c :: fs) e s => match e with
    | .normal => match c with
      | .skip => .mk fs .normal s
      | .seq a b => .mk (.code a :: .code b :: fs) .normal s
      | .block id b => .mk (.code b :: .blk id :: fs) .normal s
      | .exit id => .mk fs (.exit id) s
      | .ret => .mk fs .ret s
      | .region _ ops false => .mk (.ops ops ops.toList :: fs) .normal s
      | _ => .bad
    | e => .mk fs e s
  | .mk (.blk id :: fs) e s => match e with
    | .exit i => if i = id then .mk fs .normal s else .mk fs (.exit i) s
    | e => .mk fs e s
  | .mk (.ops os l :: fs) e s => match e with
    | .normal => match l with
      | [] => .mk fs .normal s
      | o :: l => match stepS P n os o s with
        | some s' => .mk (.ops os l :: fs) .normal s'
        | none => .bad
    | e => .mk fs e s
def go (P : Program) (n : Nat) : Nat → Cfg → Cfg
  | 0, C => C
  | k + 1, C => go P n k (stepC P n C)

section
variable {P : Program} {K : Ctx} {n : Nat} {Q : Exit → St → Prop} {C : Cfg}
theorem step_ok (h : TS P K n (stepC P n C) Q) : TS P K n C Q := by
  cases C with
  | bad => exact h
  | mk fs e s =>
    cases fs with
    | nil => exact h.elim
    | cons f fs =>
      cases f with
      | code c =>
        cases e with
        | normal =>
          simp only [stepC] at h
          split at h
          · exact T_skip h
          · exact T_seq h
          · exact T_block h
          · exact T_exit h
          · exact T_ret h
          · rename_i id ops
            have := T_region (P := P) (K := K) (n := n) (id := id) (l := ops.toList) (Q := QS P K n fs Q) (s := s) h
            exact this
          · exact h.elim
        | _ => exact h
      | blk id =>
        cases e with
        | exit i =>
          simp only [stepC] at h
          simp only [TS, QS, blockQ]
          split
          · rename_i hi; rw [if_pos hi] at h; exact h
          · rename_i hi; rw [if_neg hi] at h; exact h
        | _ => exact h
      | ops os l =>
        cases e with
        | normal =>
          simp only [stepC] at h
          cases l with
          | nil => exact TL_nil h
          | cons o l =>
            simp only at h
            split at h
            · rename_i s' hs
              exact TL_stp (stepS_ok hs) h
            · exact h.elim
        | _ => exact h
theorem TS_go : ∀ (k : Nat) {C : Cfg}, TS P K n (go P n k C) Q → TS P K n C Q
  | 0, _, h => h
  | k + 1, _, h => step_ok (TS_go k h)
/-- the code of a function -/
theorem T_start {c : Code} {s : St} (h : TS P K n (.mk [.code c] .normal s) Q) : T P K n c s Q := h

/-! ### tests -/
def Cfg.test : Cfg → Option Bool
  | .mk (.code (.cond c _ _) :: _) .normal s => match opd s c with
    | some (.c (.lit (.bool b))) => some b
    | _ => none
  | _ => none
def Cfg.thn : Cfg → Cfg
  | .mk (.code (.cond _ x _) :: fs) .normal s => .mk (.code x :: fs) .normal s
  | _ => .bad
def Cfg.els : Cfg → Cfg
  | .mk (.code (.cond _ _ y) :: fs) .normal s => .mk (.code y :: fs) .normal s
  | _ => .bad
theorem test_spec {b : Bool} (h : C.test = some b) : ∃ c x y fs s, C = .mk (.code (.cond c x y) :: fs) .normal s ∧ opd s c = some (.c (.lit (.bool b))) := by
  unfold Cfg.test at h
  split at h
  · rename_i c x y fs s
    split at h
    · rename_i b' hb; cases h; exact ⟨c, x, y, fs, s, rfl, hb⟩
    · cases h
  · cases h
theorem TS_T {b : Bool} (h : C.test = some b) (hb : b = true) (k : TS P K n C.thn Q) : TS P K n C Q := by
  subst hb
  obtain ⟨c, x, y, fs, s, rfl, hc⟩ := test_spec h
  exact T_cond true hc k
theorem TS_F {b : Bool} (h : C.test = some b) (hb : b = false) (k : TS P K n C.els Q) : TS P K n C Q := by
  subst hb
  obtain ⟨c, x, y, fs, s, rfl, hc⟩ := test_spec h
  exact T_cond false hc k

/-! ### what is known of a bool -/
def Cfg.st : Cfg → St
  | .mk _ _ s => s
  | .bad => ⟨[], []⟩
def Cfg.withS (C : Cfg) (s : St) : Cfg := match C with
  | .mk fs e _ => .mk fs e s
  | .bad => .bad
/-- code or operations stand next -/
def Cfg.pre : Cfg → Bool
  | .mk (.code _ :: _) .normal _ => true
  | .mk (.ops _ _ :: _) .normal _ => true
  | _ => false
/-- what holds of one state in place of another -/
theorem TS_state (s' : St) (hR : ∀ a w, R K n a w C.st → R K n a w s') (he : C.pre = true) (k : TS P K n (C.withS s') Q) : TS P K n C Q := by
  cases C with
  | bad => exact k
  | mk fs e s =>
    cases fs with
    | nil => simp [Cfg.pre] at he
    | cons f fs =>
      cases e <;> try (simp [Cfg.pre] at he; done)
      cases f with
      | code c => exact fun a w r => k a w (hR a w r)
      | ops os l => exact fun a w r => k a w (hR a w r)
      | blk id => simp [Cfg.pre] at he
end
end Go.Proofs.Ytohfnlkjdjmipaa
