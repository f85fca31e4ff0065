/-
  SHADOWS, second make: append onto rows that may be written; rows that become read-only.
-/
import Derived.Test.YtohfnlkjdjmipaaV16
namespace Go.Proofs.Ytohfnlkjdjmipaa
open Go.RowKit

/-- what names the row d is known no more -/
def SC.kill0 (d : Nat) : SC → SC
  | .own e => if e = d then .any else .own e
  | .row e n => if e = d then .any else .row e n
  | .sub e s a n => if e = d then .any else .sub e s a n
  | .elt e s i o => if e = d then .any else .elt e s i o
  | x => x
def SC.kill (d : Nat) : SC → SC
  | .clo f cs => .clo f (cs.map (SC.kill0 d))
  | x => x.kill0 d
/-- the row token of one name is another -/
structure Other (g g' : Env) (d0 : Nat) : Prop where
  pos : ∀ d, g'.pos d = g.pos d
  tk : ∀ d, d ≠ d0 → g'.tk d = g.tk d
  tk2 : ∀ d, (g'.tk d).2 = (g.tk d).2
theorem CRel0.kill {rd rd' : Rd} (hle : rd.le rd') {g g' : Env} {d0 : Nat} (k : Other g g' d0) {v : Value} {x : SC} (h : CRel0 rd g v x) : CRel0 rd' g' v (x.kill0 d0) := by
  cases x with
  | lit u => exact h.mono hle
  | ref cs => exact h.mono hle
  | box d off => simp only [SC.kill0, CRel0, k.pos] at *; exact h
  | own d => simp only [SC.kill0]; split; · trivial
             · rename_i hd; simp only [CRel0, k.tk d hd] at *; exact h
  | row d n => simp only [SC.kill0]; split; · trivial
               · rename_i hd; simp only [CRel0, k.tk d hd] at *; exact h
  | win d off n => simp only [SC.kill0, CRel0, k.pos] at *; exact h
  | sub d s a n => simp only [SC.kill0]; split; · trivial
                   · rename_i hd; simp only [CRel0, k.tk d hd] at *; exact h
  | elt d s i off => simp only [SC.kill0]; split; · trivial
                     · rename_i hd; simp only [CRel0, k.tk d hd] at *; exact h
  | any => trivial
  | clo c cs => exact h.elim
  | slc s tag n xs =>
    refine ⟨h.1.mono hle, ?_⟩
    rcases tag with _ | _ | t
    · trivial
    · exact h.2
    · have h2 := h.2
      simp only [Tag, k.tk2] at h2 ⊢
      exact h2
theorem CRel.kill {rd rd' : Rd} (hle : rd.le rd') {g g' : Env} {d0 : Nat} (k : Other g g' d0) {v : Value} {x : SC} (h : CRel rd g v x) : CRel rd' g' v (x.kill d0) := by
  cases x with
  | clo c cs =>
    obtain ⟨caps, h1, h2, h3⟩ := h
    refine ⟨caps, h1, by simpa using h2, fun j y hy => ?_⟩
    rw [List.getElem?_map] at hy
    obtain ⟨y0, hy0, rfl⟩ := Option.map_eq_some_iff.1 hy
    obtain ⟨u, h4, h5⟩ := h3 j y0 hy0
    exact ⟨u, h4, h5.kill hle k⟩
  | lit u => exact CRel0.up (CRel0.kill hle k (x := .lit u) h)
  | ref u => exact CRel0.up (CRel0.kill hle k (x := .ref u) h)
  | box d off => exact CRel0.up (CRel0.kill hle k (x := .box d off) h)
  | own d => exact CRel0.up (CRel0.kill hle k (x := .own d) h)
  | row d n => exact CRel0.up (CRel0.kill hle k (x := .row d n) h)
  | win d off n => exact CRel0.up (CRel0.kill hle k (x := .win d off n) h)
  | sub d s a n => exact CRel0.up (CRel0.kill hle k (x := .sub d s a n) h)
  | elt d s i off => exact CRel0.up (CRel0.kill hle k (x := .elt d s i off) h)
  | any => trivial
  | slc s tag n xs => exact CRel0.up (CRel0.kill hle k (x := .slc s tag n xs) h)

/-- the state, its values changed by m -/
def St.mapC (s : St) (m : SC → SC) : St := ⟨s.tmps.map fun p => (p.1, p.2.map m), s.hp.map fun p => (p.1, p.2.map m)⟩
section
variable {K : Ctx} {g g' : Env} {w w' : World} {n : Nat} {a : Act} {s : St}
/-- one resource and its names change; what is said of the rest is changed by m -/
theorem RG.turn (h : RG K g n a w s) {d : Nat} {r0 r : Res} (m : SC → SC) (hl : look s.hp d = some r0) (hpos : ∀ e, g'.pos e = g.pos e) (htk : ∀ e, e ≠ d → g'.tk e = g.tk e) (ok : SC → Bool) (hok1 : ∀ t v, look s.tmps t = some v → v.every ok = true) (hok2 : ∀ e x, look s.hp e = some x → x.every ok = true)
    (hm : (rdOf K g s.hp w).le (rdOf K g' (setL d r (s.mapC m).hp) w') → ∀ v x, ok x = true → CRel (rdOf K g s.hp w) g v x → CRel (rdOf K g' (setL d r (s.mapC m).hp) w') g' v (m x)) (hk : Keep w (Foot g d r0) w') (hfoot : ∀ b o, Foot g' d r b o → Foot g d r0 b o ∨ w.heap.size ≤ b) (hnb : ∀ cs, r ≠ .box cs) (hr0 : r0.isBox = false)
    (hh : (rdOf K g s.hp w).le (rdOf K g' (setL d r (s.mapC m).hp) w') → Holds (rdOf K g' (setL d r (s.mapC m).hp) w') g' w' d r) : RG K g' n a w' ((s.mapC m).setR d r) ∧ (rdOf K g s.hp w).le (rdOf K g' (setL d r (s.mapC m).hp) w') := by
  have ht : ∀ e, (e == d) = false → e ≠ d := fun e h => by simpa using h
  have ht' : ∀ e, (e == d) = true → e = d := fun e h => by simpa using h
  have he : ∀ e x, (e == d) = false → look s.hp e = some x → g'.pos e = g.pos e ∧ g'.tk e = g.tk e := fun e x h1 _ => ⟨hpos e, htk e (ht e h1)⟩
  have hl' : ∀ e x, e ≠ d → look (setL d r (s.mapC m).hp) e = some x → ∃ x0, look s.hp e = some x0 ∧ x = x0.map m := by
    intro e x he' hx
    rw [look_setL, if_neg (Ne.symm he')] at hx
    simp only [St.mapC, look_map (fun x => Res.map m x)] at hx
    obtain ⟨x0, h1, h2⟩ := Option.map_eq_some_iff.1 hx
    exact ⟨x0, h1, h2.symm⟩
  have hld : look (setL d r (s.mapC m).hp) d = some r := by rw [look_setL, if_pos rfl]
  have hk' : Keep w (fun b o => ∃ e x, (e == d) = true ∧ look s.hp e = some x ∧ Foot g e x b o) w' := hk.weak (fun b o x => ⟨d, r0, by simp, hl, x⟩)
  have hf' : ∀ e x b o, (e == d) = true → look (setL d r (s.mapC m).hp) e = some x → Foot g' e x b o → (∃ e' r', (e' == d) = true ∧ look s.hp e' = some r' ∧ Foot g e' r' b o) ∨ w.heap.size ≤ b := by
    intro e x b o h1 h2 h3
    have := ht' e h1; subst this
    rw [hld] at h2; cases h2
    rcases hfoot b o h3 with h4 | h4
    · exact .inl ⟨e, r0, by simp, hl, h4⟩
    · exact .inr h4
  have hle := rd_step (K := K) (g := g) (g' := g') (w := w) (w' := w') (h := s.hp) (h' := setL d r (s.mapC m).hp) h.hg (· == d) he (fun e x h1 h2 => let ⟨x0, h3, h4⟩ := hl' e x (ht e h1) h2; ⟨x0, m, h3, h4⟩) hk' hf'
  have k := h.hg.step (g' := g') (w' := w') (h' := setL d r (s.mapC m).hp) (· == d) m ok he (fun e x h1 h2 => let ⟨x0, h3, h4⟩ := hl' e x (ht e h1) h2; ⟨x0, h3, h4, hok2 e x0 h3⟩) hk' hf'
    (fun e e' x x' b o h1 h2 hne => absurd ((ht' e h1).trans (ht' e' h2).symm) hne) (fun u x hx hc => hm hle u x hx hc)
    (fun e x h1 h2 => by have := ht' e h1; subst this; rw [hld] at h2; cases h2; exact hh hle)
    (fun e cs h1 _ h2 => by have := ht' e h1; subst this; rw [hld] at h2; cases h2; exact absurd rfl (hnb cs))
    (fun e x h1 h2 _ b o hf => by
      have := ht' e h1; subst this
      rw [hld] at h2; cases h2
      rcases hfoot b o hf with h4 | h4
      · exact h.hg.new e r0 hl hr0 b o h4
      · exact .inl (Nat.le_trans h.hg.keep.size h4))
  refine ⟨⟨h.defers, h.size, h.few, k, fun t v hv => ?_⟩, hle⟩
  simp only [St.setR, St.mapC, look_map (fun v => SV.map m v)] at hv
  obtain ⟨v0, hv0, rfl⟩ := Option.map_eq_some_iff.1 hv
  obtain ⟨u, h1, h2⟩ := h.tmps t v0 hv0
  exact ⟨u, h1, h2.imp (p := ok) (fun v x hx hc => hm hle v x hx hc) (hok1 t v0 hv0)⟩
end

/-! ### append -/
def preOf (s : St) : SV → Option (Nat × Nat × Nat × Nat × List (List SC) × Nat)
  | .c (.own d) => match look s.hp d with
    | some (.row e sz N xs) => some (d, e, sz, N, xs, N)
    | _ => none
  | .c (.row d m) => match look s.hp d with
    | some (.row e sz N xs) => some (d, e, sz, N, xs, m)
    | _ => none
  | _ => none
def appRArgs (P : Program) (s : St) (o : Oper) : Option (Nat × Nat × Nat × Nat × Nat × List (List SC) × Nat × List (List SC) × Cut) := match o.op with
  | .call { callee := .builtin .append, args := xs, argTypes := ts } => match xs.toList, ts.toList with
    | [x, y], [t, t'] => match P.underlying t with
      | some (.slice e) => match P.info? e with
        | some ie => match (opd s x).bind (preOf s), (opd s y).bind (srcS s ie.size) with
          | some (d, e', sz, N, a, m), some (b, c) => if t = t' ∧ ie.zero.map (·.cells.size) = some ie.size ∧ 0 < ie.size ∧ e' = e ∧ sz = ie.size then some (d, e, ie.size, ie.bytes, N, a, m, b, c) else none
          | _, _ => none
        | none => none
      | _ => none
    | _, _ => none
  | _ => none
theorem S_appR {α : Type} {P : Program} {K : Ctx} {n : Nat} {ops : Array Oper} {o : Oper} {s : St} {d e sz by_ N m : Nat} (f : α → List SC) (hone : ∀ x, (f x).all SC.one = true) {l1 l2 l' : List α} {c : Cut} (he : appO by_ (l1.take m) (c.app l2) = some l') (h : appRArgs P s o = some (d, e, sz, by_, N, l1.map f, m, l2.map f, c)) (hgd : guardOf ops o s = some true) (hd : dstOk n o = true) :
    Stp P K n ops o s (((s.mapC (SC.kill d)).setR d (.row e sz l'.length (l'.map f))).put o.dst (.c (.own d))) := by
  unfold appRArgs at h
  split at h
  rotate_left
  · cases h
  rename_i xs ts ho
  split at h
  rotate_left
  · cases h
  rename_i x y t t' hxs hts
  have hxs' : xs = #[x, y] := by rw [← Array.toArray_toList (xs := xs), hxs]
  have hts' : ts = #[t, t'] := by rw [← Array.toArray_toList (xs := ts), hts]
  subst hxs'
  subst hts'
  split at h
  rotate_left
  · cases h
  rename_i e1 hu
  split at h
  rotate_left
  · cases h
  rename_i ie hi
  split at h
  rotate_left
  · cases h
  rename_i d1 e1' sz1 N1 a1 m1 b1 c1 hx hy
  split at h
  rotate_left
  · cases h
  rename_i hq
  obtain ⟨rfl, hz, hs0, rfl, rfl⟩ := hq
  cases h
  obtain ⟨z, hz, hzc⟩ := Option.map_eq_some_iff.1 hz
  simp only [appO] at he
  split at he
  rotate_left
  · cases he
  rename_i hb
  cases he
  obtain ⟨vx, hx1, hx2⟩ := Option.bind_eq_some_iff.1 hx
  obtain ⟨vy, hy1, hy2⟩ := Option.bind_eq_some_iff.1 hy
  refine Stp_mk hgd fun g a w r K' Q hK => ?_
  have hview := r.view.o o
  have hvx := hview.op x _ (by simp [ho, Op.operands, Call.operands]) hx1
  have hsrc := srcS_rel hy2 hview (hview.op y _ (by simp [ho, Op.operands, Call.operands]) hy1)
  rw [Cut.map] at hsrc
  -- the beginning of the row
  obtain ⟨hl, hpre⟩ : look s.hp d = some (.row e ie.size N (l1.map f)) ∧ ∃ ax cx, (g.tk d).1 = .slice ax N cx ∧ a.eval x = .slice ax m cx ∧ m ≤ N := by
    unfold preOf at hx2
    split at hx2
    · split at hx2
      · rename_i hl
        cases hx2
        obtain ⟨us, h1, _⟩ := r.hg.holds d _ hl
        obtain ⟨ax, cx, k1, _⟩ := tk_slice h1
        obtain ⟨q1, _⟩ := hvx
        exact ⟨hl, ax, cx, k1, by rw [q1, k1], Nat.le_refl _⟩
      · cases hx2
    · split at hx2
      · rename_i hl
        cases hx2
        obtain ⟨us, h1, _⟩ := r.hg.holds d _ hl
        obtain ⟨ax, cx, k1, _⟩ := tk_slice h1
        obtain ⟨ax', N', cx', q1, q2, q3⟩ := hvx
        rw [k1] at q1
        cases q1
        exact ⟨hl, ax, cx, k1, q2, q3⟩
      · cases hx2
    · cases hx2
  obtain ⟨ax, cx, hV, hvx', hmN⟩ := hpre
  obtain ⟨us, hown, hlenx, hrowx⟩ := r.hg.holds d _ hl
  have hlx : l1.length = N := by rw [List.length_map] at hlenx; exact hlenx
  have hul := hown.1
  -- the beginning as a row by itself
  have hownm : w.ownsRow 0 e ie.size (.slice ax m cx) m (us.take (m * ie.size)) ∧ (Value.slice ax m cx).ownBlock = (g.tk d).1.ownBlock := by
    have hms : m * ie.size ≤ N * ie.size := Nat.mul_le_mul_right _ hmN
    refine ⟨⟨by rw [List.length_take, hul]; omega, ?_⟩, by rw [hV]; cases ax <;> rfl⟩
    rcases hown.2 with ⟨q1, q2⟩ | ⟨gb, cap, cur, q1, q2, q3, q4, q5, q6, q7⟩
    · rw [hV] at q1
      cases q1
      exact .inl ⟨by have : m = 0 := by omega
                     rw [this], by omega⟩
    · rw [hV] at q1
      cases q1
      refine .inr ⟨gb, cx, cur, rfl, q2, q3, by omega, q5, q6, ?_⟩
      rw [← q7, List.take_take, Nat.min_eq_left hms]
  obtain ⟨hownm, hblkm⟩ := hownm
  have hrowm : RowIs (rdOf K g s.hp w) ie.size (us.take (m * ie.size)) ((l1.take m).map f) := by
    have := hrowx.cut 0 m
    simpa [List.map_take] using this
  have hlm : (l1.take m).length = m := by rw [List.length_take]; omega
  rw [hlm] at hb
  unfold Oper.wp
  simp only [execOp, ho, resolve, invoke, builtin, Sem.run_bind, Sem.run_pure, Result.andThen_ok, List.map_toArray, List.map_cons, List.map_nil]
  rw [hvx']
  generalize hvy : a.eval y = uy at *
  obtain ⟨ay, cy, vals, rfl, hlv, hrow, hwhere, _⟩ := hsrc
  rw [List.length_map] at hlv ⊢
  generalize hl2' : c.app l2 = l2' at *
  have hlen : (l1.take m ++ l2').length = m + l2'.length := by rw [List.length_append, hlm]
  have hr2 : RowIs (rdOf K g s.hp w) ie.size (us.take (m * ie.size) ++ vals) ((l1.take m ++ l2').map f) := by
    rw [List.map_append]
    refine hrowm.append hrow ?_
    rw [List.length_map, hlm]
    exact hownm.1
  -- the run
  obtain ⟨V', w', q1, q2, q3, q4⟩ : ∃ V' w', (Builtin.append_ #[t, t] o.type #[.slice ax m cx, .slice ay l2'.length cy]).run P w = .ok V' w' ∧ w'.ownsRow 0 e ie.size V' (m + l2'.length) (us.take (m * ie.size) ++ vals) ∧ Keep w (Foot g d (.row e ie.size N (l1.map f))) w' ∧ ∀ k, V'.ownBlock = some k → (g.tk d).1.ownBlock = some k ∨ w.heap.size ≤ k := by
    by_cases hl2 : l2' = []
    · subst hl2
      have hv0 : vals = [] := List.eq_nil_of_length_eq_zero (by simpa using hlv)
      obtain ⟨_, _, k1, k2, _⟩ := tk_slice hownm
      injection k1 with _ _ k3
      refine ⟨_, w, run_append_zero t o.type e ie hu hi ax ay m cx cy (by rw [k3]; exact k2), by simpa [hv0] using hownm, Keep.refl _ _, fun k hk => .inl (by rw [← hblkm]; exact hk)⟩
    · have hpos : 0 < l2'.length := List.length_pos_iff.2 hl2
      obtain ⟨ad, rfl, hcells⟩ : ∃ ad, ay = some ad ∧ ∀ j v, vals[j]? = some v → w.cell? (ad.add j) = some v := by
        rcases hwhere with h0 | h0
        · exact absurd (List.map_eq_nil_iff.1 h0) hl2
        · exact h0
      have h1v := SrcIs.one hs0 (by rw [List.length_map]; exact hlv) hrow (fun x hx => by obtain ⟨y, _, rfl⟩ := List.mem_map.1 hx; exact hone y)
      obtain ⟨V', w', q1, q2, q3, q4⟩ := run_append_keep (P := P) t o.type e ie z ie.size ie.bytes hu hi hz rfl rfl hzc hs0 _ _ _ hownm ad l2'.length cy vals hlv hcells h1v hpos (by unfold maxLen; omega) hb.1
      exact ⟨V', w', q1, q2, q3.weak (fun b o h => by simp only [Foot]; rw [← hblkm]; exact h.1), fun k hk => by rw [← hblkm]; exact q4 k hk⟩
  rw [q1]
  simp only [Result.andThen_ok, Oper.upon]
  obtain ⟨aV', cV', hV', _, _, _, _⟩ := tk_slice q2
  let g' : Env := { pos := g.pos, tk := fun e => if e = d then (V', (g.tk d).2) else g.tk e }
  have hgd' : g'.tk d = (V', (g.tk d).2) := by simp [g']
  have hoth : Other g g' d := ⟨fun _ => rfl, fun e q => by simp [g', q], fun e => by by_cases q : e = d <;> simp [g', q]⟩
  obtain ⟨r1, hle⟩ := r.turn (g' := g') (w' := w') (r := .row e ie.size (l1.take m ++ l2').length ((l1.take m ++ l2').map f)) (SC.kill d) hl (fun _ => rfl) hoth.tk (fun _ => true) (fun _ v _ => v.every_true) (fun _ x _ => x.every_true) (fun hle v x _ hc => hc.kill hle hoth) q3 (fun b o' hf => by
      simp only [Foot, hgd'] at hf
      exact q4 b hf) (fun _ q => by cases q) rfl (fun hle => ⟨_, by rw [hgd', hlen]; exact q2, by simp, hr2.mono hle⟩)
  refine hK _ _ ⟨g', r1.put o.dst (dstOk_spec hd) ?_⟩
  simp only [VRel, CRel, CRel0]
  rw [hgd']
  exact ⟨rfl, _, _, _, hV'⟩

/-! ### a row is written no more -/
def SC.settle0 (d sz n : Nat) (xs : List (List SC)) : SC → SC
  | .own e => if e = d then .slc sz (d + 2) n xs else .own e
  | .row e m => if e = d then .slc sz 0 m (xs.take m) else .row e m
  | x => x.kill0 d
def SC.settle (d sz n : Nat) (xs : List (List SC)) : SC → SC
  | .clo f cs => .clo f (cs.map (SC.settle0 d sz n xs))
  | x => x.settle0 d sz n xs
def noTag0 (d : Nat) : SC → Bool
  | .slc _ tag _ _ => tag != d + 2
  | _ => true
def noTag (d : Nat) : SC → Bool
  | .clo _ cs => cs.all (noTag0 d)
  | x => noTag0 d x
def settleS (s : St) (d : Nat) : Option St := match look s.hp d with
  | some (.row e sz n xs) => if s.tmps.all (fun p => p.2.every (noTag d)) && s.hp.all (fun p => p.2.every (noTag d)) then some ((s.mapC (SC.settle d sz n xs)).setR d (.spare e sz n)) else none
  | _ => none
/-- the spare token of one name is another -/
structure Other2 (g g' : Env) (d0 : Nat) : Prop where
  pos : ∀ d, g'.pos d = g.pos d
  tk : ∀ d, d ≠ d0 → g'.tk d = g.tk d
  tk1 : ∀ d, (g'.tk d).1 = (g.tk d).1
theorem CRel0.settle {rd rd' : Rd} (hle : rd.le rd') {g g' : Env} {d0 sz n : Nat} {xs : List (List SC)} (k : Other2 g g' d0) (hn : ∀ v, CRel0 rd g v (.own d0) → CRel0 rd' g' v (.slc sz (d0 + 2) n xs)) (hn2 : ∀ v m, CRel0 rd g v (.row d0 m) → CRel0 rd' g' v (.slc sz 0 m (xs.take m))) {v : Value} {x : SC} (hx : noTag0 d0 x = true) (h : CRel0 rd g v x) : CRel0 rd' g' v (x.settle0 d0 sz n xs) := by
  cases x with
  | lit u => exact h.mono hle
  | ref cs => exact h.mono hle
  | box d off => simp only [SC.settle0, SC.kill0, CRel0, k.pos] at *; exact h
  | own d =>
    simp only [SC.settle0]
    split
    · rename_i hd; subst hd; exact hn v h
    · simp only [CRel0, k.tk1] at *; exact h
  | row d n =>
    simp only [SC.settle0]
    split
    · rename_i hd; subst hd; exact hn2 v n h
    · simp only [CRel0, k.tk1] at *; exact h
  | win d off n => simp only [SC.settle0, SC.kill0, CRel0, k.pos] at *; exact h
  | sub d s a n => simp only [SC.settle0, SC.kill0]; split; · trivial
                   · simp only [CRel0, k.tk1] at *; exact h
  | elt d s i off => simp only [SC.settle0, SC.kill0]; split; · trivial
                     · simp only [CRel0, k.tk1] at *; exact h
  | any => trivial
  | clo c cs => exact h.elim
  | slc s tag n xs =>
    refine ⟨h.1.mono hle, ?_⟩
    rcases tag with _ | _ | t
    · trivial
    · exact h.2
    · have h2 := h.2
      have ht : t ≠ d0 := by
        intro q; subst q
        simp [noTag0] at hx
      simp only [Tag, k.tk t ht] at h2 ⊢
      exact h2
theorem CRel.settle {rd rd' : Rd} (hle : rd.le rd') {g g' : Env} {d0 sz n : Nat} {xs : List (List SC)} (k : Other2 g g' d0) (hn : ∀ v, CRel0 rd g v (.own d0) → CRel0 rd' g' v (.slc sz (d0 + 2) n xs)) (hn2 : ∀ v m, CRel0 rd g v (.row d0 m) → CRel0 rd' g' v (.slc sz 0 m (xs.take m))) {v : Value} {x : SC} (hx : noTag d0 x = true) (h : CRel rd g v x) : CRel rd' g' v (x.settle d0 sz n xs) := by
  cases x with
  | clo c cs =>
    obtain ⟨caps, h1, h2, h3⟩ := h
    refine ⟨caps, h1, by simpa using h2, fun j y hy => ?_⟩
    rw [List.getElem?_map] at hy
    obtain ⟨y0, hy0, rfl⟩ := Option.map_eq_some_iff.1 hy
    obtain ⟨u, h4, h5⟩ := h3 j y0 hy0
    exact ⟨u, h4, h5.settle hle k hn hn2 (List.all_eq_true.1 hx y0 (List.mem_of_getElem? hy0))⟩
  | lit u => exact CRel0.up (CRel0.settle hle k hn hn2 (x := .lit u) hx h)
  | ref u => exact CRel0.up (CRel0.settle hle k hn hn2 (x := .ref u) hx h)
  | box d off => exact CRel0.up (CRel0.settle hle k hn hn2 (x := .box d off) hx h)
  | own d => exact CRel0.up (CRel0.settle hle k hn hn2 (x := .own d) hx h)
  | row d n => exact CRel0.up (CRel0.settle hle k hn hn2 (x := .row d n) hx h)
  | win d off n => exact CRel0.up (CRel0.settle hle k hn hn2 (x := .win d off n) hx h)
  | sub d s a n => exact CRel0.up (CRel0.settle hle k hn hn2 (x := .sub d s a n) hx h)
  | elt d s i off => exact CRel0.up (CRel0.settle hle k hn hn2 (x := .elt d s i off) hx h)
  | any => trivial
  | slc s tag n xs => exact CRel0.up (CRel0.settle hle k hn hn2 (x := .slc s tag n xs) hx h)
theorem R.settle {K : Ctx} {w : World} {n : Nat} {a : Act} {s s' : St} {d : Nat} (h : R K n a w s) (hs : settleS s d = some s') : R K n a w s' := by
  obtain ⟨g, h⟩ := h
  unfold settleS at hs
  split at hs
  rotate_left
  · cases hs
  rename_i e sz N xs hl
  split at hs
  rotate_left
  · cases hs
  rename_i hq
  cases hs
  simp only [Bool.and_eq_true, List.all_eq_true] at hq
  obtain ⟨us, h1, h2, h3⟩ := h.hg.holds d _ hl
  obtain ⟨aV, cV, hV, hVc, hVm, hvl, hblk⟩ := tk_slice h1
  let g' : Env := { pos := g.pos, tk := fun e => if e = d then ((g.tk d).1, (g.tk d).1) else g.tk e }
  have hgd' : g'.tk d = ((g.tk d).1, (g.tk d).1) := by simp [g']
  have hoth : Other2 g g' d := ⟨fun _ => rfl, fun e q => by simp [g', q], fun e => by by_cases q : e = d <;> simp [g', q]⟩
  refine ⟨g', (h.turn (g' := g') (w' := w) (r := .spare e sz N) (SC.settle d sz N xs) hl (fun _ => rfl) hoth.tk (noTag d) (fun t v hv => hq.1 _ (look_mem hv)) (fun e x hx => hq.2 _ (look_mem hx)) (fun hle v x hx hc => hc.settle hle hoth (fun v hv => ?_) (fun v m hv => ?_) hx) (Keep.refl _ _) (fun b o' hf => .inl (by
      simp only [Foot, hgd'] at hf ⊢
      exact hf.1)) (fun _ q => by cases q) rfl (fun hle => ⟨us, by rw [hgd']; exact h1.m⟩)).1⟩
  all_goals (
    have hread : ∀ bb, (g.tk d).1.ownBlock = some bb → ∀ k v, us[k]? = some v → k < N * sz → rdOf K g' (setL d (.spare e sz N) (s.mapC (SC.settle d sz N xs)).hp) w bb k = some v := by
      intro bb hbk k v hv hk
      have hcell := h1.cells hbk k v hv
      rw [addr_add, Nat.zero_add] at hcell
      unfold rdOf
      rw [if_neg, if_neg (fun q => (h.hg.new d _ hl rfl bb k hbk).elim (fun q2 => Nat.not_lt.2 q2 q.1) q.2)]
      · exact hcell
      · rintro ⟨d2, x2, k1, k2⟩
        rw [look_setL] at k1
        split at k1
        · rename_i hdd
          cases k1
          simp only [Foot] at k2
          omega
        · rename_i hdd
          simp only [St.mapC, look_map (fun x => Res.map (SC.settle d sz N xs) x)] at k1
          obtain ⟨x0, k3, rfl⟩ := Option.map_eq_some_iff.1 k1
          rw [foot_map, foot_env (g := g) (g' := g') ⟨rfl, hoth.tk d2 (Ne.symm hdd)⟩] at k2
          exact h.hg.dis d2 d x0 _ bb k (Ne.symm hdd) k3 hl k2 hbk)
  · obtain ⟨rfl, _⟩ := hv
    refine ⟨?_, ?_⟩
    · rcases hblk with h0 | ⟨bb, hbb, hbk⟩
      · have hx : xs = [] := List.eq_nil_of_length_eq_zero (h2.trans h0)
        subst hx
        rw [hV, h0]
        exact .nil sz _ _ hVm
      · rw [hV, hbb]
        exact row_is (b := bb) (vals := us) (h3.mono hle) h2 hVc hVm (fun k v hv hk => hread bb hbk k v hv hk)
    · show _ ≤ vlen (g'.tk d).2 ∧ (_ = vlen (g'.tk d).2 → (g.tk d).1 = (g'.tk d).2)
      rw [hgd', hvl]
      exact ⟨Nat.le_refl _, fun _ => rfl⟩
  · obtain ⟨aV', N', cV', q1, rfl, q3⟩ := hv
    rw [hV] at q1
    cases q1
    refine ⟨?_, trivial⟩
    rcases hblk with h0 | ⟨bb, hbb, hbk⟩
    · have hm0 : m = 0 := by omega
      subst hm0
      exact .nil sz _ _ hVm
    · rw [hbb]
      have hcut := h3.cut 0 m
      rw [Nat.zero_mul, List.drop_zero, List.drop_zero] at hcut
      have hms : m * sz ≤ N * sz := Nat.mul_le_mul_right _ q3
      refine row_is (b := bb) (vals := us.take (m * sz)) (hcut.mono hle) (by rw [List.length_take]; omega) (by omega) hVm (fun k v hv hk => hread bb hbk k v ?_ (by omega))
      rw [List.getElem?_take, if_pos hk] at hv
      exact hv
theorem TS_settle {P : Program} {K : Ctx} {n : Nat} {Q : Exit → St → Prop} {C : Cfg} (d : Nat) (he : C.pre = true) (k : TS P K n (C.st2 (settleS C.st d)) Q) : TS P K n C Q := TS_st2 (fun _ _ _ hs r => r.settle hs) he k
end Go.Proofs.Ytohfnlkjdjmipaa
