/-
  SHADOWS, second make: new rows; nil as a row; all names moved; the rules for the machine.
-/
import Derived.Test.YtohfnlkjdjmipaaV12
namespace Go.Proofs.Ytohfnlkjdjmipaa
open Go.RowKit

section
variable {P : Program} {K : Ctx} {g g' : Env} {w w' : World} {n : Nat} {a : Act} {s : St} {ops : Array Oper} {o : Oper}
/-- an operation that makes a row of its own -/
def OwnOp (P : Program) (o : Oper) (s : St) (e sz : Nat) (xs : List (List SC)) : Prop :=
  ∀ g rd a w, OView g rd a w s o → ∃ V w' us, (execOp a.eval o).run P w = .ok (.value V) w' ∧ Ext w w' ∧ w'.ownsRow 0 e sz V xs.length us ∧ (∀ b, V.ownBlock = some b → w.heap.size ≤ b) ∧ RowIs rd sz us xs
theorem Sub.own {s s' : St} (h : Sub s s') {e sz : Nat} {xs : List (List SC)} (hp : OwnOp P o s e sz xs) : OwnOp P o s' e sz xs :=
  fun g rd a w hv => hp g rd a w ⟨fun x v hx hq => hv.op x v hx (h.opd hq), hv.reads, fun d r hd => hv.holds d r (h.h d r hd)⟩
/-- the same; a mark may lie behind the row -/
def OwnOpM (P : Program) (o : Oper) (s : St) (e sz : Nat) (xs : List (List SC)) : Prop :=
  ∀ g rd a w, OView g rd a w s o → ∃ V w' us, (execOp a.eval o).run P w = .ok (.value V) w' ∧ Ext w w' ∧ w'.ownsRowM e sz V xs.length us ∧ (∀ b, V.ownBlock = some b → w.heap.size ≤ b) ∧ RowIs rd sz us xs
theorem OwnOp.m {e sz : Nat} {xs : List (List SC)} (hp : OwnOp P o s e sz xs) : OwnOpM P o s e sz xs := fun g rd a w hv => let ⟨V, w', us, h1, h2, h3, h4, h5⟩ := hp g rd a w hv; ⟨V, w', us, h1, h2, h3.m, h4, h5⟩
theorem Sub.ownM {s s' : St} (h : Sub s s') {e sz : Nat} {xs : List (List SC)} (hp : OwnOpM P o s e sz xs) : OwnOpM P o s' e sz xs :=
  fun g rd a w hv => hp g rd a w ⟨fun x v hx hq => hv.op x v hx (h.opd hq), hv.reads, fun d r hd => hv.holds d r (h.h d r hd)⟩
theorem S_ownM {e sz : Nat} {xs : List (List SC)} (d : Nat) (hp : OwnOpM P o s e sz xs) (hgd : guardOf ops o s = some true) (hdst : o.dst = some d) (hd : d < n) (hd6 : d < 1000000) (hf : NoName s d (some d)) :
    Stp P K n ops o s ((s.setR d (.spare e sz xs.length)).put (some d) (.c (.slc sz (d + 2) xs.length xs))) := by
  refine Stp_mk hgd fun g a w r K' Q hK => ?_
  obtain ⟨V, w', us, h1, h2, h3, h4, h5⟩ := hp _ _ _ _ (r.view.o o)
  unfold Oper.wp
  rw [h1]
  simp only [Oper.upon]
  obtain ⟨aV, cV, hV, hVc, hVm, hvl, hblk⟩ := tk_sliceM h3
  have h0 := r.forget d
  have hgd' : (g.setTk d (undef, V) (0, 0)).tk d = (undef, V) := by simp [Env.setTk]
  obtain ⟨r1, hle⟩ := h0.add (g' := g.setTk d (undef, V) (0, 0)) (w' := w') (r := .spare e sz xs.length) hd6 hf.drop (fun e he => by simp [Env.setTk, he]) h2 (fun b o hb => by
      simp only [Foot, hgd'] at hb
      exact h4 b hb.1) (fun hle => ⟨us, by rw [hgd']; exact h3⟩)
  have r2 := r1.put (some d) (fun t ht => by cases ht; exact hd) (u := V) (v := .c (.slc sz (d + 2) xs.length xs)) (by
    refine ⟨?_, ?_⟩
    · rcases hblk with h0 | ⟨bb, hbb, hbk⟩
      · have hx : xs = [] := List.eq_nil_of_length_eq_zero h0
        subst hx
        rw [hV]
        exact .nil sz _ _ hVm
      · have hVe : V = .slice (some ⟨bb, 0, none⟩) xs.length cV := by rw [hV, hbb]
        conv => arg 2; rw [hVe]
        refine row_is (b := bb) (vals := us) (h5.mono hle) rfl hVc hVm (fun k v hv hk => ?_)
        have hcell := h3.cells hbk k v hv
        rw [addr_add, Nat.zero_add] at hcell
        have hb := h4 bb hbk
        unfold rdOf
        rw [if_neg, if_neg (by have := r.hg.keep.size; omega)]
        · exact hcell
        · rintro ⟨d2, x2, k1, k2⟩
          simp only [St.setR, look_setL] at k1
          split at k1
          · rename_i hdd
            cases k1
            simp only [Foot] at k2
            omega
          · rename_i hdd
            rw [foot_env (g := g) (by simp [Env.setTk, Ne.symm hdd])] at k2
            have := (r.hg.holds d2 x2 k1).lt k2
            omega
    · show _ ≤ vlen ((g.setTk d (undef, V) (0, 0)).tk d).2 ∧ (_ = vlen ((g.setTk d (undef, V) (0, 0)).tk d).2 → V = ((g.setTk d (undef, V) (0, 0)).tk d).2)
      rw [hgd', hvl]
      exact ⟨Nat.le_refl _, fun _ => rfl⟩)
  rw [hdst]
  exact hK _ _ ⟨_, r2.sim (fun k => (put_drop (s.setR d (.spare e sz xs.length)) d _ k).symm) rfl⟩
theorem S_ownT {e sz : Nat} {xs : List (List SC)} (d : Nat) (hp : OwnOp P o s e sz xs) (hgd : guardOf ops o s = some true) (hdst : o.dst = some d) (hd : d < n) (hd6 : d < 1000000) (hf : NoName s d (some d)) :
    Stp P K n ops o s ((s.setR d (.spare e sz xs.length)).put (some d) (.c (.slc sz (d + 2) xs.length xs))) := S_ownM d hp.m hgd hdst hd hd6 hf
/-- the same as a row that may be written -/
theorem S_ownR {e sz : Nat} {xs : List (List SC)} (d : Nat) (hp : OwnOp P o s e sz xs) (hgd : guardOf ops o s = some true) (hdst : o.dst = some d) (hd : d < n) (hd6 : d < 1000000) (hf : NoName s d (some d)) :
    Stp P K n ops o s ((s.setR d (.row e sz xs.length xs)).put (some d) (.c (.own d))) := by
  refine Stp_mk hgd fun g a w r K' Q hK => ?_
  obtain ⟨V, w', us, h1, h2, h3, h4, h5⟩ := hp _ _ _ _ (r.view.o o)
  unfold Oper.wp
  rw [h1]
  simp only [Oper.upon]
  obtain ⟨aV, cV, hV, hVc, hVm, hvl, hblk⟩ := tk_slice h3
  have h0 := r.forget d
  have hgd' : (g.setTk d (V, undef) (0, 0)).tk d = (V, undef) := by simp [Env.setTk]
  obtain ⟨r1, hle⟩ := h0.add (g' := g.setTk d (V, undef) (0, 0)) (w' := w') (r := .row e sz xs.length xs) hd6 hf.drop (fun e he => by simp [Env.setTk, he]) h2 (fun b o hb => by
      simp only [Foot, hgd'] at hb
      exact h4 b hb) (fun hle => ⟨us, by rw [hgd']; exact h3, rfl, h5.mono hle⟩)
  have r2 := r1.put (some d) (fun t ht => by cases ht; exact hd) (u := V) (v := .c (.own d)) (by
    simp only [VRel, CRel, CRel0]
    rw [hgd']
    exact ⟨rfl, _, _, _, hV⟩)
  rw [hdst]
  exact hK _ _ ⟨_, r2.sim (fun k => (put_drop (s.setR d (.row e sz xs.length xs)) d _ k).symm) rfl⟩

/-! ### nil as a row -/
theorem RG.recast (h : RG K g n a w s) {t : Nat} {v0 v : SV} (hl : look s.tmps t = some v0) (hv : ∀ u, VRel (rdOf K g s.hp w) g u v0 → VRel (rdOf K g s.hp w) g u v) : RG K g n a w (s.put (some t) v) := by
  refine ⟨h.defers, h.size, h.few, h.hg, fun k x hx => ?_⟩
  rw [look_put] at hx
  split at hx
  · rename_i hk; subst hk; cases hx
    obtain ⟨u, h1, h2⟩ := h.tmps _ _ hl
    exact ⟨u, h1, hv u h2⟩
  · exact h.tmps k x hx
theorem RG.recastBox (h : RG K g n a w s) {b : Nat} {cs ds : List SC} (hl : look s.hp b = some (.box cs)) (hlen : ds.length = cs.length) (hv : ∀ (j : Nat) (x y : SC), cs[j]? = some x → ds[j]? = some y → ∀ u, CRel (rdOf K g s.hp w) g u x → CRel (rdOf K g s.hp w) g u y) : RG K g n a w (s.setR b (.box ds)) := by
  refine (h.upd (r := .box ds) hl (fun b' o' hf => ?_) (Keep.refl _ _) (fun _ _ => ⟨cs, rfl⟩) (fun q => by cases q) (fun hle j y hy => ?_)).1
  · simp only [Foot, hlen] at hf ⊢; exact hf
  · have hj := (List.getElem?_eq_some_iff.1 hy).1
    obtain ⟨u, h1, h2, h3⟩ := h.hg.holds b _ hl j _ (List.getElem?_eq_getElem (by omega))
    exact ⟨u, h1, h2, (hv j _ y (List.getElem?_eq_getElem (by omega)) hy u h3).mono hle⟩
theorem RG.nilTok (h : RG K g n a w s) (d e sz : Nat) (hd6 : d < 1000000) (hf : NoName s d none) : RG K (g.setTk d (undef, .slice none 0 0) (0, 0)) n a w (s.setR d (.spare e sz 0)) :=
  (h.add (g' := g.setTk d (undef, .slice none 0 0) (0, 0)) (w' := w) (r := .spare e sz 0) hd6 hf (fun e he => by simp [Env.setTk, he]) (Ext.refl w) (fun b o hb => by
      simp [Foot, Env.setTk, Value.ownBlock] at hb) (fun hle => ⟨[], by simpa [Env.setTk] using (World.ownsRow_nil w 0 e sz).m⟩)).1
def nilT (s : St) (t d e sz : Nat) : Option St := match look s.tmps t with
  | some (.c (.lit (.slice none 0 0))) => if decide (d < 1000000) && s.noname d none then some ((s.setR d (.spare e sz 0)).put (some t) (.c (.slc sz (d + 2) 0 []))) else none
  | _ => none
theorem R.nilT {s' : St} (h : R K n a w s) {t d e sz : Nat} (hs : nilT s t d e sz = some s') : R K n a w s' := by
  obtain ⟨g, h⟩ := h
  unfold Go.Proofs.Ytohfnlkjdjmipaa.nilT at hs
  split at hs
  · rename_i hl
    split at hs
    · rename_i hq
      simp only [Bool.and_eq_true, decide_eq_true_eq] at hq
      cases hs
      have h1 := h.nilTok d e sz hq.1 (noname_spec hq.2)
      refine ⟨_, h1.recast (t := t) hl (fun u hu => ?_)⟩
      rw [rel_lit hu]
      refine ⟨.nil sz none 0 (by simp [maxLen]), ?_⟩
      simp [Tag, Env.setTk, vlen]
    · cases hs
  · cases hs
def nilB (s : St) (b j d e sz : Nat) : Option St := match s.lookB b with
  | some cs => match cs[j]? with
    | some (.lit (.slice none 0 0)) => if decide (d < 1000000) && s.noname d none && b != d then some ((s.setR d (.spare e sz 0)).setR b (.box (cs.set j (.slc sz (d + 2) 0 [])))) else none
    | _ => none
  | none => none
theorem R.nilB {s' : St} (h : R K n a w s) {b j d e sz : Nat} (hs : nilB s b j d e sz = some s') : R K n a w s' := by
  obtain ⟨g, h⟩ := h
  unfold Go.Proofs.Ytohfnlkjdjmipaa.nilB at hs
  split at hs
  · rename_i cs hl
    split at hs
    · rename_i hj
      split at hs
      · rename_i hq
        simp only [Bool.and_eq_true, decide_eq_true_eq, bne_iff_ne] at hq
        cases hs
        have h1 := h.nilTok d e sz hq.1.1 (noname_spec hq.1.2)
        refine ⟨_, h1.recastBox (b := b) (cs := cs) (by simp only [St.setR, look_setL]; rw [if_neg (Ne.symm hq.2)]; exact lookB_some hl) (by simp) (fun i x y hx hy u hu => ?_)⟩
        rw [List.getElem?_set] at hy
        split at hy
        · rename_i hij; subst hij
          split at hy
          · cases hy
            rw [hj] at hx
            cases hx
            have : u = .slice none 0 0 := rel_lit (g := g.setTk d (undef, .slice none 0 0) (0, 0)) hu
            subst this
            refine ⟨.nil sz none 0 (by simp [maxLen]), ?_⟩
            simp [Tag, Env.setTk, vlen]
          · cases hy
        · rw [hx] at hy; cases hy; exact hu
      · cases hs
    · cases hs
  · cases hs

/-! ### all names moved -/
def bumpN (k d : Nat) : Nat := if d < 1000000 then d + k else d
def bumpP (k d : Nat) : Bool := decide (d + k < 1000000) || decide (1000000 ≤ d)
def St.bump (s : St) (k : Nat) : Option St :=
  if s.tmps.all (fun p => p.2.every (SC.say (bumpP k))) && s.hp.all (fun p => bumpP k p.1 && p.2.every (SC.say (bumpP k))) then
    some ⟨s.tmps.map fun p => (p.1, p.2.map (SC.ren (bumpN k))), s.hp.map fun p => (bumpN k p.1, p.2.map (SC.ren (bumpN k)))⟩
  else none
theorem bump_inj {k d e : Nat} (hd : bumpP k d = true) (he : bumpP k e = true) (h : bumpN k d = bumpN k e) : d = e := by
  simp only [bumpP, Bool.or_eq_true, decide_eq_true_eq] at hd he
  unfold bumpN at h
  split at h <;> split at h <;> omega
theorem look_bump (k : Nat) : ∀ (l : Hp), (∀ p ∈ l, bumpP k p.1 = true) → ∀ d x, look (l.map fun p => (bumpN k p.1, p.2.map (SC.ren (bumpN k)))) d = some x → ∃ d0 x0, look l d0 = some x0 ∧ d = bumpN k d0 ∧ x = x0.map (SC.ren (bumpN k)) ∧ bumpP k d0 = true
  | [], _, d, x, h => by simp [look] at h
  | (e, y) :: l, hl, d, x, h => by
    simp only [List.map_cons, look_cons] at h
    split at h
    · rename_i he
      cases h
      exact ⟨e, y, by rw [look_cons, if_pos rfl], he.symm, rfl, hl (e, y) (by simp)⟩
    · rename_i he
      obtain ⟨d0, x0, h1, h2, h3, h4⟩ := look_bump k l (fun p hp => hl p (by simp [hp])) d x h
      refine ⟨d0, x0, ?_, h2, h3, h4⟩
      rw [look_cons, if_neg]
      · exact h1
      · intro hh; subst hh; exact he h2.symm
theorem R.bump {s' : St} {k : Nat} (h : R K n a w s) (hs : s.bump k = some s') : R K n a w s' := by
  obtain ⟨g, h⟩ := h
  unfold St.bump at hs
  split at hs
  rotate_left
  · cases hs
  rename_i hq
  cases hs
  simp only [Bool.and_eq_true, List.all_eq_true] at hq
  obtain ⟨hq1, hq2⟩ := hq
  let un : Nat → Nat := fun e => if e < 1000000 then e - k else e
  have hun : ∀ d, bumpP k d = true → un (bumpN k d) = d := by
    intro d hd
    simp only [bumpP, Bool.or_eq_true, decide_eq_true_eq] at hd
    simp only [un, bumpN]
    by_cases h1 : d < 1000000
    · rw [if_pos h1, if_pos (by omega)]; omega
    · rw [if_neg h1, if_neg h1]
  let g' : Env := { pos := fun e => g.pos (un e), tk := fun e => g.tk (un e) }
  have hg' : ∀ d, bumpP k d = true → g'.pos (bumpN k d) = g.pos d ∧ g'.tk (bumpN k d) = g.tk d := fun d hd => by simp only [g', hun d hd, and_self]
  have hlk := look_bump k s.hp (fun p hp => (hq2 p hp).1)
  have hfoot : ∀ d r, bumpP k d = true → Foot g' (bumpN k d) (Res.map (SC.ren (bumpN k)) r) = Foot g d r := by
    intro d r hd
    rw [foot_map]
    funext b o
    cases r <;> simp only [Foot, (hg' d hd).1, (hg' d hd).2]
  have hin : ∀ b o, InFoot g' (s.hp.map fun p => (bumpN k p.1, p.2.map (SC.ren (bumpN k)))) b o → InFoot g s.hp b o := by
    rintro b o ⟨d, r, h1, h2⟩
    obtain ⟨d0, x0, q1, rfl, rfl, q4⟩ := hlk d r h1
    rw [hfoot d0 x0 q4] at h2
    exact ⟨d0, x0, q1, h2⟩
  have hin2 : ∀ b o, InFoot g s.hp b o → InFoot g' (s.hp.map fun p => (bumpN k p.1, p.2.map (SC.ren (bumpN k)))) b o := by
    rintro b o ⟨d, r, h1, h2⟩
    have hb := (hq2 _ (look_mem h1)).1
    refine ⟨bumpN k d, r.map (SC.ren (bumpN k)), ?_, by rw [hfoot d r hb]; exact h2⟩
    have gen : ∀ (l : Hp), (∀ p ∈ l, bumpP k p.1 = true) → look l d = some r → look (l.map fun p => (bumpN k p.1, p.2.map (SC.ren (bumpN k)))) (bumpN k d) = some (r.map (SC.ren (bumpN k))) := by
      intro l hl hd
      induction l with
      | nil => simp [look] at hd
      | cons p l ih =>
        obtain ⟨e, y⟩ := p
        simp only [List.map_cons, look_cons] at hd ⊢
        split at hd
        · rename_i he; subst he; cases hd; rw [if_pos rfl]
        · rename_i he
          rw [if_neg (fun q => he (bump_inj (hl (e, y) (by simp)) hb q))]
          exact ih (fun p hp => hl p (by simp [hp])) hd
    exact gen s.hp (fun p hp => (hq2 p hp).1) h1
  have hrd : rdOf K g' (s.hp.map fun p => (bumpN k p.1, p.2.map (SC.ren (bumpN k)))) w = rdOf K g s.hp w := by
    funext b o
    unfold rdOf
    by_cases hx : InFoot g s.hp b o
    · rw [if_pos hx, if_pos (hin2 b o hx)]
    · rw [if_neg hx, if_neg (fun q => hx (hin b o q))]
  refine ⟨g', h.defers, h.size, h.few, ⟨h.hg.keep, fun d r hd => ?_, fun b o hx => h.hg.may b o (hin b o hx), fun d d' r r' b o hne h1 h2 h3 h4 => ?_, fun d cs h6 hd => ?_, fun d r hd hb b o hf => ?_⟩, fun t v hv => ?_⟩
  · obtain ⟨d0, x0, q1, rfl, rfl, q4⟩ := hlk d r hd
    simp only [hrd]
    exact (h.hg.holds d0 x0 q1).ren (Rd.le.refl _) (bumpN k) (bumpP k) hg' q4 (hq2 _ (look_mem q1)).2
  · obtain ⟨d0, x0, q1, rfl, rfl, q4⟩ := hlk d r h1
    obtain ⟨e0, y0, k1, rfl, rfl, k4⟩ := hlk d' r' h2
    rw [hfoot d0 x0 q4] at h3
    rw [hfoot e0 y0 k4] at h4
    exact h.hg.dis d0 e0 x0 y0 b o (fun q => hne (by rw [q])) q1 k1 h3 h4
  · obtain ⟨d0, x0, q1, rfl, q3, q4⟩ := hlk d _ hd
    have hd0 : bumpN k d0 = d0 := by
      unfold bumpN at h6 ⊢
      simp only [bumpP, Bool.or_eq_true, decide_eq_true_eq] at q4
      by_cases h1 : d0 < 1000000
      · rw [if_pos h1] at h6; omega
      · rw [if_neg h1]
    rw [(hg' d0 q4).1, hd0]
    cases x0 with
    | box cs0 => exact h.hg.fix d0 cs0 (by rw [hd0] at h6; exact h6) q1
    | row e s n xs => cases q3
    | spare e s n => cases q3
  · obtain ⟨d0, x0, q1, rfl, rfl, q4⟩ := hlk d r hd
    rw [hfoot d0 x0 q4] at hf
    exact h.hg.new d0 x0 q1 (by cases x0 <;> simp_all [Res.isBox, Res.map]) b o hf
  · simp only [look_map (fun v => SV.map (SC.ren (bumpN k)) v)] at hv
    obtain ⟨v0, hv0, rfl⟩ := Option.map_eq_some_iff.1 hv
    obtain ⟨u, k1, k2⟩ := h.tmps t v0 hv0
    simp only [hrd]
    exact ⟨u, k1, k2.imp (fun v x hx k' => k'.ren (Rd.le.refl _) (bumpN k) (bumpP k) hg' hx) (hq1 _ (look_mem hv0))⟩
end

/-! ### the rules for the machine -/
section
variable {P : Program} {K : Ctx} {n : Nat} {Q : Exit → St → Prop} {C : Cfg} {α : Type}
def Cfg.st2 (C : Cfg) (s : Option St) : Cfg := match s with
  | some s => C.withS s
  | none => .bad
theorem TS_st2 {s : Option St} (hR : ∀ a w s', s = some s' → R K n a w C.st → R K n a w s') (he : C.pre = true) (k : TS P K n (C.st2 s) Q) : TS P K n C Q := by
  cases s with
  | none => exact k.elim
  | some s' => exact TS_state s' (fun a w r => hR a w s' rfl r) he k
theorem TS_nilT (t d e sz : Nat) (he : C.pre = true) (k : TS P K n (C.st2 (nilT C.st t d e sz)) Q) : TS P K n C Q := TS_st2 (fun _ _ _ hs r => r.nilT hs) he k
theorem TS_nilB (b j d e sz : Nat) (he : C.pre = true) (k : TS P K n (C.st2 (nilB C.st b j d e sz)) Q) : TS P K n C Q := TS_st2 (fun _ _ _ hs r => r.nilB hs) he k
theorem TS_bump (b : Nat) (he : C.pre = true) (k : TS P K n (C.st2 (C.st.bump b)) Q) : TS P K n C Q := TS_st2 (fun _ _ _ hs r => r.bump hs) he k
theorem TS_appT {d e sz by_ N : Nat} (f : α → List SC) (hone : ∀ x, (f x).all SC.one = true) {l1 l2 l' : List α} {c : Cut} (he : appO by_ l1 (c.app l2) = some l') (h : C.with1 (appTArgs P) = some (d, e, sz, by_, N, N, l1.map f, l2.map f, c)) (hg : C.go1 n = true)
    (k : TS P K n (C.next ((C.st.setR d (.spare e sz l'.length)).put C.dst (.c (.slc sz (d + 2) l'.length (l'.map f))))) Q) : TS P K n C Q := by
  obtain ⟨os, o, ho, h1, h2, h3⟩ := go1_spec hg
  rw [h3] at k
  exact TS_stp ho (S_appT f hone he (with1_op h ho) h1 h2) k
/-- a row of its own is made: d the place of the result -/
def Cfg.okNew (n d : Nat) (C : Cfg) : Bool := C.go1 n && (match C.dst with | some t => t == d | none => false) && decide (d < 1000000) && C.st.noname d (some d)
theorem okNew_spec {d : Nat} (h : C.okNew n d = true) : ∃ os o, C.op = some (os, o) ∧ guardOf os o C.st = some true ∧ o.dst = some d ∧ d < n ∧ d < 1000000 ∧ NoName C.st d (some d) := by
  simp only [Cfg.okNew, Bool.and_eq_true, decide_eq_true_eq] at h
  obtain ⟨⟨⟨h1, h2⟩, h3⟩, h4⟩ := h
  obtain ⟨os, o, ho, k1, k2, k3⟩ := go1_spec h1
  rw [k3] at h2
  have hd : o.dst = some d := by
    cases hq : o.dst with
    | none => rw [hq] at h2; cases h2
    | some t => rw [hq] at h2; simp at h2; rw [h2]
  exact ⟨os, o, ho, k1, hd, dstOk_spec k2 d hd, h3, noname_spec h4⟩
theorem TS_ownT {e sz : Nat} {xs : List (List SC)} (d : Nat) (hp : ∀ os o, C.op = some (os, o) → OwnOp P o C.st e sz xs) (hg : C.okNew n d = true) (k : TS P K n (C.next ((C.st.setR d (.spare e sz xs.length)).put (some d) (.c (.slc sz (d + 2) xs.length xs)))) Q) : TS P K n C Q := by
  obtain ⟨os, o, ho, h1, h2, h3, h4, h5⟩ := okNew_spec hg
  exact TS_stp ho (S_ownT d (hp os o ho) h1 h2 h3 h4 h5) k
theorem TS_ownR {e sz : Nat} {xs : List (List SC)} (d : Nat) (hp : ∀ os o, C.op = some (os, o) → OwnOp P o C.st e sz xs) (hg : C.okNew n d = true) (k : TS P K n (C.next ((C.st.setR d (.row e sz xs.length xs)).put (some d) (.c (.own d)))) Q) : TS P K n C Q := by
  obtain ⟨os, o, ho, h1, h2, h3, h4, h5⟩ := okNew_spec hg
  exact TS_stp ho (S_ownR d (hp os o ho) h1 h2 h3 h4 h5) k
end
end Go.Proofs.Ytohfnlkjdjmipaa
