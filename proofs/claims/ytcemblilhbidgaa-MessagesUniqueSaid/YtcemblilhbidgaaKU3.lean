/-
  Part 3 of what the proof of this law rests on.
-/
import Derived.Test.YtcemblilhbidgaaKU2
namespace Go.Proofs.Ytcemblilhbidgaa
section
section
open Go.RowKit

theorem zeroCells_row {α : Type} {rd : Rd} {z : Value} {sz : Nat} (m : Nat) (f : α → List SC) (z0 : α) (ks : List Nat) (hzs : z.cells.size = sz) (hf : castL ks (z.cells.toList.map SC.lit) = f z0) : RowIs rd sz (Builtin.zeroCells z.cells m).toList ((List.replicate m z0).map f) := by
  have hzl : (f z0).length = sz := by rw [← hf, castL_length, List.length_map, Array.length_toList, hzs]
  refine ⟨fun x hx => ?_, fun i x j y hx hy => ?_⟩
  · obtain ⟨x0, hx0, rfl⟩ := List.mem_map.1 hx
    rw [(List.mem_replicate.1 hx0).2]; exact hzl
  · rw [List.getElem?_map] at hx
    obtain ⟨x0, hx0, rfl⟩ := Option.map_eq_some_iff.1 hx
    have hi : i < m := by have := (List.getElem?_eq_some_iff.1 hx0).1; simpa using this
    have hx1 : x0 = z0 := by rw [List.getElem?_replicate, if_pos hi] at hx0; cases hx0; rfl
    subst hx1
    have hj : j < sz := by have := (List.getElem?_eq_some_iff.1 hy).1; omega
    rw [← hf] at hy
    obtain ⟨k, y0, hy0, rfl⟩ := castL_get ks _ j y hy
    rw [List.getElem?_map] at hy0
    obtain ⟨u, hu', rfl⟩ := Option.map_eq_some_iff.1 hy0
    refine ⟨u, ?_, cast1_imm k (.lit u)⟩
    have hij : i * sz + j < m * sz := by
      have : (i + 1) * sz ≤ m * sz := Nat.mul_le_mul_right _ hi
      rw [Nat.add_mul, Nat.one_mul] at this
      omega
    simp only [Builtin.zeroCells, Array.getElem?_toList, Array.getElem?_map]
    rw [hzs, Array.getElem?_eq_getElem (by simp; omega)]
    simp only [Option.map_some, Array.getElem_range, Option.some.injEq]
    rw [Nat.mul_add_mod_of_lt' hj]
    rw [Array.getElem?_toList] at hu'
    rw [getElem!_def, hu']
section
variable {K : Ctx} {g : Env} {w w' : World} {n : Nat} {a : Act} {s : St} {α : Type}
theorem RG.appended (r : RG K g n a w s) {e sz d : Nat} (f : α → List SC) {l1 l2 : List α} {V V' : Value} {us vals : List Value} (hl : look s.hp d = some (.spare e sz l1.length)) (hux : V = (g.tk d).2) (rx : IRel (rdOf K g s.hp w) V (.slc sz 0 l1.length (l1.map f))) (hs0 : 0 < sz)
    (hown : w.ownsRowM e sz (g.tk d).2 l1.length us) (hrow : RowIs (rdOf K g s.hp w) sz vals (l2.map f)) (hpos : 0 < l2.length)
    (q2 : w'.ownsRowM e sz V' (l1.length + l2.length) (us ++ vals)) (q3 : Keep w (fun b o => (g.tk d).2.ownBlock = some b ∧ l1.length * sz ≤ o) w') (q4 : ∀ k, V'.ownBlock = some k → (g.tk d).2.ownBlock = some k ∨ w.heap.size ≤ k) :
    ∃ g', RG K g' n a w' (s.setR d (.spare e sz (l1 ++ l2).length)) ∧ VRel (rdOf K g' (s.setR d (.spare e sz (l1 ++ l2).length)).hp w') g' V' (.c (.slc sz (d + 2) (l1 ++ l2).length ((l1 ++ l2).map f))) := by
  obtain ⟨aV, cV, hV, hVc, hVm, hvl, hblk⟩ := tk_sliceM hown
  rw [hux] at rx
  obtain ⟨aV', cV', hV', hVc', hVm', hvl', hblk'⟩ := tk_sliceM q2
  let g' : Env := { pos := g.pos, tk := fun e => if e = d then ((g.tk d).1, V') else g.tk e }
  have hgd' : g'.tk d = ((g.tk d).1, V') := by simp [g']
  have hgr : Grew g g' d := ⟨fun _ => rfl, fun e => by by_cases q : e = d <;> simp [g', q], fun e q => by simp [g', q], .inr (by rw [hgd', hvl, hvl']; omega)⟩
  have hlen : (l1 ++ l2).length = l1.length + l2.length := List.length_append
  obtain ⟨r1, hle⟩ := r.grow (g' := g') (w' := w') (r := .spare e sz (l1 ++ l2).length) hl hgr q3 (fun b o' hf => by
      simp only [Foot, hgd'] at hf
      rcases q4 b hf.1 with h5 | h5
      · refine .inl ⟨h5, Nat.le_trans (Nat.mul_le_mul_right _ ?_) hf.2⟩
        omega
      · exact .inr h5) (fun _ q => by cases q) rfl (fun _ => ⟨us ++ vals, by rw [hgd', hlen]; exact q2⟩)
  refine ⟨g', r1, ⟨?_, ?_⟩⟩
  · -- the elements
    have hrx : RowIs (rdOf K g s.hp w) sz us (l1.map f) := by
      rcases hblk with h0 | ⟨bb, hbb, hbk⟩
      · have : l1 = [] := List.eq_nil_of_length_eq_zero h0
        subst this
        have : us = [] := List.eq_nil_of_length_eq_zero (by simpa using hown.1)
        subst this
        exact ⟨by simp, by simp⟩
      · obtain ⟨_, _, valsx, hs | ⟨ad', c', h3, hnil', _⟩⟩ := src_row (rdOf_le g s.hp r.hg.keep) rx
        · obtain ⟨h3, _, _, hrow', hlv', hw'⟩ := hs
          rw [List.length_map] at hlv' hw' h3
          rcases hw' with h0 | ⟨ad', hh, hcells'⟩
          · have : l1 = [] := List.eq_nil_of_length_eq_zero h0
            subst this
            have : us = [] := List.eq_nil_of_length_eq_zero (by simpa using hown.1)
            subst this
            exact ⟨by simp, by simp⟩
          · rw [hV, hbb] at h3
            cases h3
            cases hh
            have : us = valsx := by
              apply List.ext_getElem?
              intro j
              rcases Nat.lt_or_ge j (l1.length * sz) with hj | hj
              · have hju : j < us.length := by rw [hown.1]; exact hj
                have hjv : j < valsx.length := by omega
                have q1 := hown.cells hbk j (us[j]'hju) (List.getElem?_eq_getElem hju)
                have q2 := hcells' j (valsx[j]'hjv) (List.getElem?_eq_getElem hjv)
                rw [q1] at q2
                rw [List.getElem?_eq_getElem hju, List.getElem?_eq_getElem hjv]
                exact q2
              · rw [List.getElem?_eq_none (by rw [hown.1]; exact hj), List.getElem?_eq_none (by omega)]
            rw [this]
            exact hrow'
        · have : l1 = [] := by simpa using hnil'
          subst this
          have : us = [] := List.eq_nil_of_length_eq_zero (by simpa using hown.1)
          subst this
          exact ⟨by simp, by simp⟩
    have hr2 : RowIs (rdOf K g s.hp w) sz (us ++ vals) ((l1 ++ l2).map f) := by
      rw [List.map_append]
      exact hrx.append hrow (by rw [List.length_map]; exact hown.1)
    rcases hblk' with h0 | ⟨bb, hbb, hbk⟩
    · omega
    rw [hV', hbb, ← hlen]
    refine row_is (b := bb) (vals := us ++ vals) (hr2.mono hle) (by simp) (by rw [hlen]; exact hVc') hVm' (fun k v hv hk => ?_)
    -- each cell is read
    have hcell := q2.cells hbk k v hv
    rw [addr_add, Nat.zero_add] at hcell
    rcases q4 bb hbk with h5 | h5
    · -- in place
      rcases Nat.lt_or_ge k (l1.length * sz) with hk1 | hk1
      · rcases hblk with h0 | ⟨b2, hb2, hbk2⟩
        · rw [h0] at hk1; omega
        · rw [h5] at hbk2
          cases hbk2
          rw [hV, hb2] at rx
          have hv2 : us[k]? = some v := by rwa [List.getElem?_append_left (by rw [hown.1]; exact hk1)] at hv
          refine hle _ _ _ ?_
          generalize hsc : SC.slc sz 0 l1.length (l1.map f) = yy at rx
          generalize hvv : Value.slice (some ⟨bb, 0, none⟩) l1.length cV = vv at rx
          cases rx with
          | lit v => cases hsc
          | nil s' a c hm => injection hsc with _ _ h9 _; rw [h9] at hk1; omega
          | ref b o cs f hr hu => cases hsc
          | slc b o n c s' xs' ff hn hc hm hs hr hu =>
            cases hsc
            cases hvv
            have hs0' : 0 < sz := hs0
            have hi2 : k / sz < (l1.map f).length := by rw [List.length_map]; exact Nat.div_lt_of_lt_mul (by rw [Nat.mul_comm]; exact hk1)
            have hx2 := List.getElem?_eq_getElem hi2
            have hlx := hs _ (List.getElem_mem hi2)
            have hj2 : k % sz < ((l1.map f)[k / sz]).length := by rw [hlx]; exact Nat.mod_lt _ hs0'
            have h6 := hr _ _ _ _ hx2 (List.getElem?_eq_getElem hj2)
            rw [Nat.zero_add, show k / sz * sz + k % sz = k by have := Nat.div_add_mod k sz; rw [Nat.mul_comm] at this; omega] at h6
            have h7 := rdOf_le g s.hp r.hg.keep _ _ _ h6
            have h8 := hown.cells h5 k v hv2
            rw [addr_add, Nat.zero_add, h7] at h8
            rw [h6]; exact h8
      · unfold rdOf
        have hnew : ¬ InFoot g' (s.setR d (.spare e sz (l1 ++ l2).length)).hp bb k := by
          rintro ⟨d2, x2, k1, k2⟩
          simp only [St.setR, look_setL] at k1
          split at k1
          · rename_i hdd
            cases k1
            simp only [Foot, ← hdd, hgd'] at k2
            have := (List.getElem?_eq_some_iff.1 hv).1
            rw [q2.1] at this
            omega
          · rename_i hdd
            rw [foot_env ⟨hgr.pos d2, hgr.tk d2 (Ne.symm hdd)⟩] at k2
            exact r.hg.dis d2 d x2 _ bb k (Ne.symm hdd) k1 hl k2 ⟨h5, hk1⟩
        rw [if_neg hnew, if_neg]
        · exact hcell
        · exact fun q => (r.hg.new d _ hl rfl bb k ⟨h5, hk1⟩).elim (fun q2 => Nat.not_lt.2 q2 q.1) q.2
    · unfold rdOf
      have hnew : ¬ InFoot g' (s.setR d (.spare e sz (l1 ++ l2).length)).hp bb k := by
        rintro ⟨d2, x2, k1, k2⟩
        simp only [St.setR, look_setL] at k1
        split at k1
        · rename_i hdd
          cases k1
          simp only [Foot, ← hdd, hgd'] at k2
          have := (List.getElem?_eq_some_iff.1 hv).1
          rw [q2.1] at this
          omega
        · rename_i hdd
          rw [foot_env ⟨hgr.pos d2, hgr.tk d2 (Ne.symm hdd)⟩] at k2
          have := (r.hg.holds d2 x2 k1).lt k2
          omega
      rw [if_neg hnew, if_neg (by have := r.hg.keep.size; omega)]
      exact hcell
  · show _ ≤ vlen (g'.tk d).2 ∧ (_ = vlen (g'.tk d).2 → V' = (g'.tk d).2)
    rw [hgd']
    exact ⟨by rw [hvl', hlen]; exact Nat.le_refl _, fun _ => rfl⟩
end

def appZO {α : Type} (by_ : Nat) (l : List α) (z : α) (m : Int) : Option (List α) := if 0 ≤ m then appO by_ l (List.replicate m.toNat z) else none
section
variable {P : Program} {K : Ctx} {n : Nat} {ops : Array Oper} {o : Oper} {s need : St} {α : Type} {C : Cfg} {D : Dr} {Q : Exit → St → Prop}
end
end
section
open Go.RowKit

theorem run_boundsC {P : Program} {w : World} {A : Act} {g : Env} {rd : Rd} {s : St} {o : Oper} (hview : OView g rd A w s o) {lo hi : Option Operand} (hlm : ∀ y, lo = some y → y ∈ o.op.operands.toList) (hhm : ∀ y, hi = some y → y ∈ o.op.operands.toList) {len cap : Nat} {a b : Int} {vlo vhi : Option (IntKind × Int)}
    (hlo : lo.map (opd s) = vlo.map fun p => some (int p.1 p.2)) (hhi : hi.map (opd s) = vhi.map fun p => some (int p.1 p.2)) (ha : a = (vlo.map (·.2)).getD 0) (hb : b = (vhi.map (·.2)).getD (len : Int)) (h0 : 0 ≤ a) (h1 : a ≤ b) (h2 : b ≤ cap) :
    (Instr.sliceBounds true len cap (lo.map A.eval) (hi.map A.eval) (none : Option Value)).run P w = .ok (a.toNat, b.toNat, cap) w := by
  have hb' : (match hi.map A.eval with | some v => Instr.sliceBound v cap .sliceAcap | none => pure len : Sem Nat).run P w = .ok b.toNat w := by
    cases hi with
    | none =>
      cases vhi with
      | none => simp at hb; subst hb; simp
      | some p => simp at hhi
    | some y =>
      cases vhi with
      | none => simp at hhi
      | some p =>
        simp only [Option.map_some, Option.some.injEq, Option.getD_some] at hhi hb
        have := rel_lit (hview.op y _ (hhm y rfl) hhi)
        simp only [Option.map_some, this]
        rw [← hb]
        exact run_bound _ _ _ _ (by omega) (by omega)
  have ha' : (match lo.map A.eval with | some v => Instr.sliceBound v b.toNat .sliceB | none => pure 0 : Sem Nat).run P w = .ok a.toNat w := by
    cases lo with
    | none =>
      cases vlo with
      | none => simp at ha; subst ha; simp
      | some p => simp at hlo
    | some y =>
      cases vlo with
      | none => simp at hlo
      | some p =>
        simp only [Option.map_some, Option.some.injEq, Option.getD_some] at hlo ha
        have := rel_lit (hview.op y _ (hlm y rfl) hlo)
        simp only [Option.map_some, this]
        rw [← ha]
        exact run_bound _ _ _ _ (by omega) (by omega)
  unfold Instr.sliceBounds
  cases hi with
  | none =>
    cases lo with
    | none => simp at ha' hb' ⊢; exact ⟨ha', hb'⟩
    | some y => simp only [Option.map_none, Option.map_some, Sem.run_bind, Sem.run_pure, Result.andThen_ok, Option.isSome_none, Bool.false_eq_true, if_false] at ha' hb' ⊢; cases hb'; rw [ha']; simp
  | some z =>
    cases lo with
    | none => simp only [Option.map_none, Option.map_some, Sem.run_bind, Sem.run_pure, Result.andThen_ok, if_true] at ha' hb' ⊢; rw [hb']; simp at ha' ⊢; exact ha'
    | some y => simp only [Option.map_some, Sem.run_bind, Sem.run_pure, Result.andThen_ok, Option.isSome_none, Bool.false_eq_true, if_false, if_true] at ha' hb' ⊢; rw [hb']; simp only [Result.andThen_ok]; rw [ha']; simp
section
variable {P : Program} {o : Oper} {s : St} {α : Type}
end

section
variable {P : Program} {K : Ctx} {n : Nat} {Q : Exit → St → Prop} {C : Cfg} {D : Dr}
def rowAt (s : St) (t : Nat) : Option (Nat × Nat × Nat × Nat × Nat × List (List SC)) := match look s.tmps t with
  | some (.c (.row d m)) => match look s.hp d with
    | some (.row e sz N xs) => some (d, m, e, sz, N, xs)
    | _ => none
  | _ => none
theorem ownsRow_cut {w : World} {e sz N m : Nat} {x : Option Addr} {c : Nat} {us : List Value} (h : w.ownsRow 0 e sz (.slice x N c) N us) (hm : m ≤ N) : w.ownsRow 0 e sz (.slice x m c) m (us.take (m * sz)) := by
  have hms : m * sz ≤ N * sz := Nat.mul_le_mul_right _ hm
  refine ⟨by rw [List.length_take, h.1]; omega, ?_⟩
  rcases h.2 with ⟨hn, h0⟩ | ⟨gb, cap, cur, hv, hb, hgg, h1, h2, h3, h4⟩
  · cases hn
    obtain rfl : m = 0 := by omega
    exact .inl ⟨rfl, rfl⟩
  · cases hv
    refine .inr ⟨gb, c, cur, rfl, hb, hgg, by omega, h2, h3, ?_⟩
    rw [← h4, List.take_take, Nat.min_eq_left hms]
theorem TS_trunc (t : Nat) {d m e sz N : Nat} {xs : List (List SC)} (N2 : Nat) (ys : List (List SC)) (hy : xs.take m = ys) (hN : ys.length = N2) (h : rowAt C.st t = some (d, m, e, sz, N, xs)) (he : C.pre = true) (k : TS P K n (C.withS (((C.st.mapC (SC.kill d)).setR d (.row e sz N2 ys)).put (some t) (.c (.own d)))) Q) : TS P K n C Q := by
  unfold rowAt at h
  split at h
  rotate_left
  · cases h
  rename_i d1 m1 hlt
  split at h
  rotate_left
  · cases h
  rename_i e1 sz1 N1 xs1 hl
  cases h
  refine TS_state _ (fun a w r => ?_) he k
  obtain ⟨g, r⟩ := r
  obtain ⟨us, h1, h2, h3⟩ := r.hg.holds d _ hl
  obtain ⟨u, hu1, hu2⟩ := r.tmps t _ hlt
  obtain ⟨x, N', c, k1, rfl, k3⟩ := hu2
  have hN' : N' = N := by
    obtain ⟨x', c', k4, _⟩ := tk_slice h1
    rw [k1] at k4
    cases k4
    rfl
  subst hN'
  rw [k1] at h1
  have hcut := ownsRow_cut h1 k3
  have hm : m = N2 := by rw [← hN, ← hy, List.length_take, h2, Nat.min_eq_left k3]
  let g' : Env := { pos := g.pos, tk := fun e => if e = d then (.slice x m c, (g.tk d).2) else g.tk e }
  have hgd' : g'.tk d = (.slice x m c, (g.tk d).2) := by simp [g']
  have hot : Other g g' d := ⟨fun _ => rfl, fun e q => by simp [g', q], fun e => by by_cases q : e = d <;> simp [g', q]⟩
  obtain ⟨r1, hle⟩ := r.turn (g' := g') (w' := w) (r := .row e sz N2 ys) (SC.kill d) hl (fun _ => rfl) (fun e q => by simp [g', q]) (fun _ => true) (fun _ v _ => v.every_true) (fun _ x _ => x.every_true) (fun hle v y _ hc => hc.kill hle hot) (Keep.refl _ _) (fun b o hf => by
      simp only [Foot, hgd'] at hf
      refine .inl ?_
      simp only [Foot, k1]
      cases x with
      | none => simp [Value.ownBlock] at hf
      | some ad => exact hf) (fun _ q => by cases q) rfl (fun hle => by
      refine ⟨us.take (m * sz), by rw [hgd', ← hm]; exact hcut, hN, ?_⟩
      have := h3.cut 0 m
      simp only [Nat.zero_mul, List.drop_zero, hy] at this
      exact this.mono hle)
  refine ⟨g', r1.defers, r1.size, r1.few, r1.hg, fun j v hv => ?_⟩
  rw [look_put] at hv
  split at hv
  · rename_i hj
    cases hv
    subst hj
    exact ⟨_, hu1, by rw [hgd'], x, m, c, by rw [hgd']⟩
  · exact r1.tmps j v hv
end
end
section
open Go.RowKit

section
variable {P : Program} {K : Ctx} {n : Nat} {Q : Exit → St → Prop} {C : Cfg} {D : Dr} {g : Env} {a : Act} {w : World} {s : St} {o : Oper} {α : Type}
def capNArgs (P : Program) (s : St) (o : Oper) : Option Unit := match o.op with
  | .call { callee := .builtin .cap, args := xs, argTypes := ts } => match xs.toList, ts.toList with
    | [x], [t] => match P.underlying t, opd s x with
      | some (.slice _), some (.c (.lit (.slice none 0 0))) => some ()
      | _, _ => none
    | _, _ => none
  | .slice t x lo hi none => match P.underlying t, opd s x with
    | some (.slice e), some (.c (.lit (.slice none 0 0))) => match P.info? e, bnd s 0 lo, bnd s 0 hi with
      | some _, some (_, 0), some (_, 0) => some ()
      | _, _, _ => none
    | _, _ => none
  | _ => none
theorem grow_capN (ho : ∃ c, o.op = .call c) (h : capNArgs P s o = some ()) : GrowOp P o s (int .i64 0) := by
  obtain ⟨c0, ho0⟩ := ho
  unfold capNArgs at h
  split at h
  · rename_i xs ts ho
    split at h
    rotate_left
    · cases h
    rename_i x t hxs hts
    have hxs' : xs = #[x] := by rw [← Array.toArray_toList (xs := xs), hxs]
    have hts' : ts = #[t] := by rw [← Array.toArray_toList (xs := ts), hts]
    subst hxs'
    subst hts'
    split at h
    rotate_left
    · cases h
    rename_i e hu hx
    refine PureOp.grow fun g rd A w hview => ?_
    have h1 := rel_lit (hview.op x _ (by simp [ho, Op.operands, Call.operands]) hx)
    refine ⟨.int .i64 0, ?_, .lit _⟩
    simp [execOp, ho, resolve, invoke, builtin, h1, Builtin.cap_, run_underlying hu, goInt]
  · rename_i ho; rw [ho0] at ho; cases ho
  · cases h
theorem grow_slN (ho : ∃ t x lo hi, o.op = .slice t x lo hi none) (h : capNArgs P s o = some ()) : GrowOp P o s (.c (.lit (.slice none 0 0))) := by
  obtain ⟨t0, x0, lo0, hi0, ho0⟩ := ho
  unfold capNArgs at h
  split at h
  · rename_i ho; rw [ho0] at ho; cases ho
  · rename_i t x lo hi ho
    split at h
    rotate_left
    · cases h
    rename_i e hu hx
    split at h
    rotate_left
    · cases h
    rename_i ie v1 v2 hie h1 h2
    obtain ⟨q1, q2⟩ := bnd_spec h1
    obtain ⟨q3, q4⟩ := bnd_spec h2
    refine PureOp.grow fun g rd A w hview => ?_
    have h3 := rel_lit (hview.op x _ (by simp [ho, Op.operands]) hx)
    have hk := run_boundsC (P := P) (w := w) (A := A) hview (lo := lo) (hi := hi) (fun y hy => by subst hy; simp [ho, Op.operands]) (fun y hy => by subst hy; cases lo <;> simp [ho, Op.operands]) (len := 0) (cap := 0) (a := 0) (b := 0) q1 q3 q2 (by simpa using q4) (Int.le_refl _) (Int.le_refl _) (Int.le_refl _)
    refine ⟨.slice none 0 0, ?_, .lit _⟩
    simp only [execOp, ho, Option.map_none, Instr.sliceAt, Instr.slice, run_underlying hu, h3, hk, sizeOf, typeInfo, program, hie, Sem.run_bind, Sem.run_pure, Sem.run, Result.andThen_ok]
    rfl
  · cases h
def Cfg.isCall (C : Cfg) : Bool := match C.op with
  | some (_, o) => match o.op with
    | .call _ => true
    | _ => false
  | none => false
def Cfg.isSl (C : Cfg) : Bool := match C.op with
  | some (_, o) => match o.op with
    | .slice _ _ _ _ none => true
    | _ => false
  | none => false
theorem TS_capN (hc : C.isCall = true) (h : C.with1 (capNArgs P) = some ()) (hg : C.go1 n = true) (k : TS P K n (C.ret (int .i64 0)) Q) : TS P K n C Q :=
  TS_val _ hg (fun os o ho => grow_capN (by
    simp only [Cfg.isCall, ho] at hc
    split at hc
    · rename_i q; exact ⟨_, q⟩
    · cases hc) (with1_op h ho)) k
theorem TS_slN (hc : C.isSl = true) (h : C.with1 (capNArgs P) = some ()) (hg : C.go1 n = true) (k : TS P K n (C.ret (.c (.lit (.slice none 0 0)))) Q) : TS P K n C Q :=
  TS_val _ hg (fun os o ho => grow_slN (by
    simp only [Cfg.isSl, ho] at hc
    split at hc
    · rename_i q; exact ⟨_, _, _, _, q⟩
    · cases hc) (with1_op h ho)) k
end
end
section
open Go.RowKit

section
variable {P : Program} {K : Ctx} {n : Nat} {Q : Exit → St → Prop} {C : Cfg} {D : Dr} {s : St} {o : Oper} {α : Type}
def SC.fzv : SC → Option SC
  | .lit v => some (.lit v)
  | .slc s _ n xs => some (.slc s 0 n xs)
  | .ref cs => some (.ref cs)
  | _ => none
def fzvL : List SC → Option (List SC)
  | [] => some []
  | x :: l => match x.fzv, fzvL l with
    | some y, some r => some (y :: r)
    | _, _ => none
theorem fzv_rel {rd : Rd} {g : Env} {u : Value} {x y : SC} (h : CRel rd g u x) (hx : x.fzv = some y) : IRel rd u y := by
  cases x <;> simp only [SC.fzv, reduceCtorEq, Option.some.injEq] at hx
  · subst hx; exact h
  · subst hx; exact h.1
  · subst hx; exact h
theorem fzvL_get : ∀ {l : List SC} {r : List SC}, fzvL l = some r → l.length = r.length ∧ ∀ (i : Nat) (x y : SC), l[i]? = some x → r[i]? = some y → x.fzv = some y
  | [], r, h => by cases h; exact ⟨rfl, fun i x y h1 => by simp at h1⟩
  | x :: l, r, h => by
    simp only [fzvL] at h
    split at h
    · rename_i y r' hy hr
      cases h
      obtain ⟨h1, h2⟩ := fzvL_get hr
      refine ⟨by simp [h1], fun i a b ha hb => ?_⟩
      cases i with
      | zero => cases ha; cases hb; exact hy
      | succ i => exact h2 i a b ha hb
    · cases h
def boxFArgs (s : St) (o : Oper) : Option (List SC) := match o.op with
  | .box _ x => match opd s x with
    | some v => match cellsOf v with
      | some cs => fzvL cs
      | none => none
    | none => none
  | _ => none
theorem grow_boxF {cs : List SC} (h : boxFArgs s o = some cs) : GrowOp P o s (.c (.ref cs)) := by
  unfold boxFArgs at h
  split at h
  rotate_left
  · cases h
  rename_i t x ho
  split at h
  rotate_left
  · cases h
  rename_i v hx
  split at h
  rotate_left
  · cases h
  rename_i cs0 hc
  obtain ⟨hlen, hget⟩ := fzvL_get h
  intro g rd A w hview
  have hr := rel_cells (hview.op x _ (by simp [ho, Op.operands]) hx) hc
  unfold mSafe
  simp only [execOp, ho, Instr.box, newVar, newRow, newObj, Sem.run_bind, Sem.run_pure, Sem.run, Result.andThen_ok]
  refine ⟨Ext.alloc _ _, fun rd' hle hsees => ?_⟩
  have key : ∀ (j : Nat) (y : SC), cs[j]? = some y → ∃ u, (A.eval x).cells[j]? = some u ∧ IRel rd' u y := by
    intro j y hy
    have hj := (List.getElem?_eq_some_iff.1 hy).1
    obtain ⟨x0, hx0⟩ : ∃ x0, cs0[j]? = some x0 := ⟨_, List.getElem?_eq_getElem (by omega)⟩
    obtain ⟨u, h1, h2⟩ := hr.2 j x0 hx0
    exact ⟨u, h1, (fzv_rel h2 (hget j x0 y hx0 hy)).mono hle⟩
  refine .ref w.heap.size 0 cs (fun j => ((A.eval x).cells[j]?).getD undef) (fun j y hy => ?_) (fun j y hy => ?_)
  · obtain ⟨u, h1, _⟩ := key j y hy
    refine hsees _ _ _ (Nat.le_refl _) ?_
    have hc := World.cell?_alloc_at (w := w) (A.eval x).cells t w.heap.size j rfl
    rw [Nat.zero_add]
    refine Eq.trans ?_ (Eq.trans hc ?_)
    · rfl
    · rw [h1]; rfl
  · obtain ⟨u, h1, h2⟩ := key j y hy
    rw [h1]
    exact h2
theorem TS_boxF {cs : List SC} (h : C.with1 boxFArgs = some cs) (hg : C.go1 n = true) (k : TS P K n (C.ret (.c (.ref cs))) Q) : TS P K n C Q :=
  TS_val _ hg (fun _ _ ho => grow_boxF (with1_op h ho)) k
def slFArgs (P : Program) (k : IntKind) (m : Nat) (s : St) (o : Oper) : Option (List SC × Int × Int) := match o.op with
  | .slice t x lo hi none => match opd s x, P.underlying t with
    | some (.c (.ref cs)), some (.array n e) => match P.info? e, P.underlying e, bnd s 0 lo, bnd s n hi with
      | some ie, some (.int k'), some (_, a), some (_, b) => if ie.size = 1 ∧ n = m ∧ m ≤ cs.length ∧ k' = k then some (cs.take m, a, b) else none
      | _, _, _, _ => none
    | _, _ => none
  | _ => none
theorem arrS_take_drop (k : IntKind) (m : Nat) (l : List Int) (a b i : Nat) (hb : b ≤ m) : ((((List.range m).map fun i => l.getD i 0).take b).drop a)[i]? = if a + i < b then some (l.getD (a + i) 0) else none := by
  rw [List.getElem?_drop, List.getElem?_take]
  split
  · rw [List.getElem?_map, List.getElem?_range (by omega)]; rfl
  · rfl
theorem grow_slF {k : IntKind} {m : Nat} {l : List Int} {l' : List Int} {a b : Int} (hm : decide (m ≤ 140737488355328) = true) (he : subO (arrL m l) a b = some l') (h : slFArgs P k m s o = some (arrS k m l, a, b)) : GrowOp P o s (.c (.slc 1 0 l'.length (l'.map (ecI k)))) := by
  have hm' := of_decide_eq_true hm
  unfold subO at he
  split at he
  rotate_left
  · cases he
  rename_i hab
  cases he
  obtain ⟨p1, p2, p3⟩ := hab
  have hal : (arrL m l).length = m := by simp [arrL]
  rw [hal] at p3
  unfold slFArgs at h
  split at h
  rotate_left
  · cases h
  rename_i t x lo hi ho
  split at h
  rotate_left
  · cases h
  rename_i cs n1 e hx hu
  split at h
  rotate_left
  · cases h
  rename_i ie k' v1 a' v2 b' hie hue h1 h2
  split at h
  rotate_left
  · cases h
  rename_i hq
  obtain ⟨hsz, rfl, hmc, rfl⟩ := hq
  injection h with h
  simp only [Prod.mk.injEq] at h
  obtain ⟨hcs, rfl, rfl⟩ := h
  obtain ⟨q1, q2⟩ := bnd_spec h1
  obtain ⟨q3, q4⟩ := bnd_spec h2
  refine PureOp.grow fun g rd A w hview => ?_
  have hv := hview.op x _ (by simp [ho, Op.operands]) hx
  have hk := run_bounds (P := P) (w := w) (A := A) hview (lo := lo) (hi := hi) (fun y hy => by subst hy; simp [ho, Op.operands]) (fun y hy => by subst hy; cases lo <;> simp [ho, Op.operands]) false (len := n1) (cap := n1) q1 q3 q2 q4 p1 p2 (by omega) (Nat.le_refl _)
  simp only [VRel, CRel, CRel0] at hv
  generalize hev : A.eval x = v at *
  cases hv with
  | ref b0 o0 _ u hr hu' =>
    have hcell : ∀ i, i < n1 → rd b0 (o0 + i) = some (.int k' (l.getD i 0)) := by
      intro i hi
      have hci : cs[i]? = some (.lit (.int k' (l.getD i 0))) := by
        have : (cs.take n1)[i]? = some (.lit (.int k' (l.getD i 0))) := by rw [hcs, arrS_getI, if_pos hi]
        rw [List.getElem?_take, if_pos hi] at this
        exact this
      have h3 := hu' i _ hci
      have h4 := hr i _ hci
      generalize hz : u i = z at *
      cases h3
      exact h4
    have hlen : (((arrL n1 l).take b'.toNat).drop a'.toNat).length = b'.toNat - a'.toNat := by simp [arrL]; omega
    refine ⟨.slice (if n1 = a'.toNat then some ⟨b0, o0, none⟩ else some ⟨b0, o0 + a'.toNat, none⟩) (b'.toNat - a'.toNat) (n1 - a'.toNat), ?_, ?_⟩
    · simp only [execOp, ho, Option.map_none, Instr.sliceAt, Instr.sureAddr, run_underlying hu, hev, hk, sizeOf, typeInfo, program, hie, Sem.run_bind, Sem.run_pure, Sem.run, Result.andThen_ok, hsz, Nat.mul_one, addr_add]
      split <;> rfl
    · refine ⟨?_, trivial⟩
      by_cases hz : b'.toNat - a'.toNat = 0
      · have h0 : ((arrL n1 l).take b'.toNat).drop a'.toNat = [] := List.eq_nil_of_length_eq_zero (by rw [hlen]; exact hz)
        rw [h0, hz]
        exact .nil _ _ _ (by unfold maxLen; omega)
      · rw [if_neg (by omega), hlen]
        refine .slc b0 (o0 + a'.toNat) _ _ 1 ((((arrL n1 l).take b'.toNat).drop a'.toNat).map (ecI k')) (fun i _ => .int k' (l.getD (a'.toNat + i) 0)) (by rw [List.length_map, hlen]) (by omega) (by unfold maxLen; omega) (fun y hy => ?_) (fun i y j z hy hz' => ?_) (fun i y j z hy hz' => ?_)
        · obtain ⟨y0, _, rfl⟩ := List.mem_map.1 hy
          rfl
        · rw [List.getElem?_map] at hy
          obtain ⟨y0, hy0, rfl⟩ := Option.map_eq_some_iff.1 hy
          rw [arrL, arrS_take_drop k' _ _ _ _ _ (by omega)] at hy0
          split at hy0
          · cases hy0
            rcases j with _ | j
            · rw [show o0 + a'.toNat + i * 1 + 0 = o0 + (a'.toNat + i) by omega]
              exact hcell _ (by omega)
            · simp [ecI] at hz'
          · cases hy0
        · rw [List.getElem?_map] at hy
          obtain ⟨y0, hy0, rfl⟩ := Option.map_eq_some_iff.1 hy
          rw [arrL, arrS_take_drop k' _ _ _ _ _ (by omega)] at hy0
          split at hy0
          · cases hy0
            rcases j with _ | j
            · simp only [ecI, List.getElem?_cons_zero, Option.some.injEq] at hz'
              subst hz'
              exact .lit _
            · simp [ecI] at hz'
          · cases hy0
theorem TS_slF {k : IntKind} {l' : List Int} {a b : Int} (m : Nat) (l : List Int) (hm : decide (m ≤ 140737488355328) = true) (he : subO (arrL m l) a b = some l') (h : C.with1 (slFArgs P k m) = some (arrS k m l, a, b)) (hg : C.go1 n = true) (kk : TS P K n (C.ret (.c (.slc 1 0 l'.length (l'.map (ecI k))))) Q) : TS P K n C Q :=
  TS_val _ hg (fun _ _ ho => grow_slF hm he (with1_op h ho)) kk
theorem TD_slF {k : IntKind} {l' : List Int} {a b : Int} (m : Nat) (l : List Int) (hm : decide (m ≤ 140737488355328) = true) (he : subO (arrL m l) a b = some l') (h : D.with1 (slFArgs P k m) = some (arrS k m l, a, b)) (hg : D.go1 n = true) (kk : TD P K n (D.ret (.c (.slc 1 0 l'.length (l'.map (ecI k))))) Q) : TD P K n D Q :=
  TD_val _ hg (fun _ _ ho => grow_slF hm he (with1D_op h ho)) kk
def cpAt (n : Nat) (l : List Int) (a m : Nat) (l2 : List Int) : List Int := (List.range n).map fun i => if a ≤ i ∧ i < a + min m l2.length then l2.getD (i - a) 0 else l.getD i 0
def cpVArgs (P : Program) (s : St) (o : Oper) : Option (Nat × Nat × Nat × List SC × List (List SC) × Cut) := match o.op with
  | .call { callee := .builtin .copy, args := xs, argTypes := ts } => match xs.toList, ts.toList with
    | [x, y], [t, _] => match P.underlying t with
      | some (.slice e') => match P.info? e' with
        | some ie => match opd s x, (opd s y).bind (srcS s 1) with
          | some (.c (.win d off' m')), some (ys, c') => match s.lookB d with
            | some cs => if ie.size = 1 then some (d, off', m', cs, ys, c') else none
            | none => none
          | _, _ => none
        | none => none
      | _ => none
    | _, _ => none
  | _ => none
theorem arrS_split (k : IntKind) (n : Nat) (l : List Int) (a m : Nat) (h : a + m ≤ n) : arrS k n l = arrS k a l ++ arrS k m (l.drop a) ++ arrS k (n - (a + m)) (l.drop (a + m)) := by
  apply List.ext_getElem?
  intro i
  rw [arrS_getI, List.append_assoc, List.getElem?_append, arrS_len, arrS_getI, List.getElem?_append, arrS_len, arrS_getI, arrS_getI]
  have gd : ∀ c j, (l.drop c).getD j 0 = l.getD (c + j) 0 := fun c j => by simp [List.getD_eq_getElem?_getD, List.getElem?_drop]
  by_cases h1 : i < a
  · rw [if_pos h1, if_pos (by omega), if_pos h1]
  · rw [if_neg h1, gd, gd]
    by_cases h2 : i - a < m
    · rw [if_pos (by omega), if_pos h2, if_pos h2, show a + (i - a) = i by omega]
    · rw [if_neg h2]
      by_cases h3 : i < n
      · rw [if_pos h3, if_pos (by omega), show a + m + (i - a - m) = i by omega]
      · rw [if_neg h3, if_neg (by omega)]
theorem upd_cpV {d off n a m : Nat} {k : IntKind} {l l2 : List Int} {pre post : List SC} {c' : Cut} (hpre : decide (pre.length = off) = true) (ham : decide (a + m ≤ n) = true) (h : cpVArgs P s o = some (d, off + a, m, pre ++ (arrS k n l ++ post), l2.map (ecI k), c')) :
    UpdOp P o s d (.box (pre ++ arrS k n l ++ post)) (.box (pre ++ arrS k n (cpAt n l a m (c'.app l2)) ++ post)) (int .i64 (min (c'.app l2).length m : Nat)) := by
  have hpl := of_decide_eq_true hpre
  have ham' := of_decide_eq_true ham
  have hsp := arrS_split k n l a m ham'
  have hw : cpWArgs P (off + a) m s o = some (d, pre ++ arrS k a l, arrS k m (l.drop a), arrS k (n - (a + m)) (l.drop (a + m)) ++ post, l2.map (ecI k), c') := by
    unfold cpVArgs at h
    unfold cpWArgs
    split at h
    rotate_left
    · cases h
    rename_i xs ts ho
    split at h
    rotate_left
    · cases h
    rename_i x y t t' hxs hts
    split at h
    rotate_left
    · cases h
    rename_i e1 hu
    split at h
    rotate_left
    · cases h
    rename_i ie hie
    split at h
    rotate_left
    · cases h
    rename_i d1 off1 m1 ys c1 hx hy
    split at h
    rotate_left
    · cases h
    rename_i cs hl
    split at h
    rotate_left
    · cases h
    rename_i hsz
    injection h with h
    simp only [Prod.mk.injEq] at h
    obtain ⟨rfl, rfl, rfl, rfl, rfl, rfl⟩ := h
    simp only [ho, hxs, hts, hu, hie, hx, hy, hl]
    have e0 : pre ++ (arrS k n l ++ post) = (pre ++ arrS k a l) ++ (arrS k m1 (l.drop a) ++ (arrS k (n - (a + m1)) (l.drop (a + m1)) ++ post)) := by
      rw [hsp]; simp only [List.append_assoc]
    have l1 : (pre ++ arrS k a l).length = off + a := by rw [List.length_append, arrS_len, hpl]
    rw [e0]
    have h1 : ((pre ++ arrS k a l) ++ (arrS k m1 (l.drop a) ++ (arrS k (n - (a + m1)) (l.drop (a + m1)) ++ post))).take (off + a) = pre ++ arrS k a l := by rw [← l1]; exact List.take_left
    have h2 : ((pre ++ arrS k a l) ++ (arrS k m1 (l.drop a) ++ (arrS k (n - (a + m1)) (l.drop (a + m1)) ++ post))).drop (off + a) = arrS k m1 (l.drop a) ++ (arrS k (n - (a + m1)) (l.drop (a + m1)) ++ post) := by rw [← l1]; exact List.drop_left
    have h3 : (arrS k m1 (l.drop a) ++ (arrS k (n - (a + m1)) (l.drop (a + m1)) ++ post)).take m1 = arrS k m1 (l.drop a) := by
      have := List.take_left (l₁ := arrS k m1 (l.drop a)) (l₂ := arrS k (n - (a + m1)) (l.drop (a + m1)) ++ post)
      rwa [arrS_len] at this
    have h4 : ((pre ++ arrS k a l) ++ (arrS k m1 (l.drop a) ++ (arrS k (n - (a + m1)) (l.drop (a + m1)) ++ post))).drop (off + a + m1) = arrS k (n - (a + m1)) (l.drop (a + m1)) ++ post := by
      rw [← List.drop_drop, h2]
      have := List.drop_left (l₁ := arrS k m1 (l.drop a)) (l₂ := arrS k (n - (a + m1)) (l.drop (a + m1)) ++ post)
      rwa [arrS_len] at this
    rw [h1, h2, h3, h4, if_pos ⟨hsz, trivial, trivial, by simp only [List.length_append, arrS_len, hpl]; omega⟩]
  have hu := upd_cpW (off := off + a) (by rw [List.length_append, arrS_len, hpl]; exact decide_eq_true rfl) hw
  have e1 : pre ++ arrS k a l ++ arrS k m (l.drop a) ++ (arrS k (n - (a + m)) (l.drop (a + m)) ++ post) = pre ++ arrS k n l ++ post := by
    rw [hsp]; simp only [List.append_assoc]
  have e2 : pre ++ arrS k a l ++ arrS k m (cpA m (l.drop a) (c'.app l2)) ++ (arrS k (n - (a + m)) (l.drop (a + m)) ++ post) = pre ++ arrS k n (cpAt n l a m (c'.app l2)) ++ post := by
    have hcp : ∀ i, i < n → (cpAt n l a m (c'.app l2)).getD i 0 = if a ≤ i ∧ i < a + min m (c'.app l2).length then (c'.app l2).getD (i - a) 0 else l.getD i 0 := by
      intro i hi
      unfold cpAt
      rw [List.getD_eq_getElem?_getD, List.getElem?_map, List.getElem?_range hi]
      rfl
    have : arrS k n (cpAt n l a m (c'.app l2)) = arrS k a l ++ arrS k m (cpA m (l.drop a) (c'.app l2)) ++ arrS k (n - (a + m)) (l.drop (a + m)) := by
      apply List.ext_getElem?
      intro i
      rw [arrS_getI, List.append_assoc, List.getElem?_append, arrS_len, arrS_getI, List.getElem?_append, arrS_len, arrS_getI, arrS_getI]
      have gd : ∀ c j, (l.drop c).getD j 0 = l.getD (c + j) 0 := fun c j => by simp [List.getD_eq_getElem?_getD, List.getElem?_drop]
      by_cases h1 : i < a
      · rw [if_pos h1, if_pos (by omega), if_pos h1, hcp i (by omega), if_neg (by omega)]
      · rw [if_neg h1, gd]
        by_cases h2 : i - a < m
        · rw [if_pos (by omega), if_pos h2, if_pos h2, cpA_get _ _ _ _ h2, gd, hcp i (by omega), show a + (i - a) = i by omega]
          by_cases h4 : i - a < (c'.app l2).length
          · rw [if_pos h4, if_pos (by omega)]
          · rw [if_neg h4, if_neg (by omega)]
        · rw [if_neg h2]
          by_cases h3 : i < n
          · rw [if_pos h3, if_pos (by omega), hcp i h3, if_neg (by omega), show a + m + (i - a - m) = i by omega]
          · rw [if_neg h3, if_neg (by omega)]
    rw [this]; simp only [List.append_assoc]
  rw [e1, e2] at hu
  exact hu
theorem TD_cpV {k : IntKind} (d off nn a m : Nat) (l l2 : List Int) (c' : Cut) {pre post : List SC} (hpre : decide (pre.length = off) = true) (ham : decide (a + m ≤ nn) = true) (h : D.with1 (cpVArgs P) = some (d, off + a, m, pre ++ (arrS k nn l ++ post), l2.map (ecI k), c')) (hg : D.go1 n = true)
    (kk : TD P K n (D.push ⟨D.need, D.dst, int .i64 (min (c'.app l2).length m : Nat), some (d, .box (pre ++ arrS k nn (cpAt nn l a m (c'.app l2)) ++ post)), false⟩) Q) : TD P K n D Q :=
  TD_upd (fun _os _o ho => upd_cpV hpre ham (with1D_op h ho)) hg kk
end
end
section
open Go.RowKit

theorem con_ofGA {P : Program} {f : FuncId} {fn : Func} {c : Code} {args : List SV} {el sz N N' : Nat} {xs0 : List (List SC)} {r : SV} (kss : List (List Nat)) (n i j0 : Nat) (cs0 : List SC) (hf : P.funcs[f]? = some fn) (hb : fn.body = some c) (hn : fn.ntmps = n) (hl : decide (args.length ≤ n ∧ n ≤ 2000000) = true) (hi : args[i]? = some (.agg cs0)) (hj0 : cs0[j0]? = some (.slc sz 1000003 N xs0))
    (ht : ∀ K, TS P K n (.mk [.code c] .normal ⟨initT 0 args ++ ghostOf sz N xs0, [(1000001, .spare el sz N)]⟩) (retG P fn kss el sz N r N')) : ConG P f args el sz N r N' := by
  intro rd g w us hrd hus hargs hhold hnot
  obtain ⟨hl', hfew⟩ := of_decide_eq_true hl
  have hvN := vlen_spare hhold
  let h : Hp := [(1000001, .spare el sz N)]
  let K : Ctx := ⟨w, InFoot g h, rd, g.pos, fun j => if j = 0 then some (g.tk 1000001).2 else none, fun b o v hv => ⟨hrd b o v hv, fun x => by rw [hnot b o (infoot_one.1 x)] at hv; cases hv⟩⟩
  have hrdle : rd.le (rdOf K g h w) := by
    intro b o v hv
    unfold rdOf
    rw [if_neg (fun x => by rw [hnot b o (infoot_one.1 x)] at hv; cases hv), if_pos ⟨World.block_lt_of_cell? w _ (hrd b o v hv), fun x => by rw [hnot b o (infoot_one.1 x)] at hv; cases hv⟩]
    exact hv
  have hlk : ∀ d x, look h d = some x → d = 1000001 ∧ x = .spare el sz N := by
    intro d x hx
    rw [look_cons] at hx
    split at hx
    · rename_i hd; cases hx; exact ⟨hd.symm, rfl⟩
    · simp [look] at hx
  have hgh : VRel (rdOf K g h w) g (g.tk 1000001).2 (.c (.slc sz 1000003 N xs0)) := by
    obtain ⟨u0, q1, vs0, _, q0⟩ := hargs i _ hi
    obtain ⟨u, _, q2⟩ := q0.2 j0 _ hj0
    have q3 := q2.mono hrdle
    obtain ⟨q4, q5⟩ := q3
    have hu : u = (g.tk 1000001).2 := q5.2 hvN.symm
    rw [← hu]
    exact q2.mono hrdle
  have hR : RG K g n { tmps := us ++ Array.replicate (fn.ntmps - us.size) undef, defers := [] } w ⟨initT 0 args ++ ghostOf sz N xs0, h⟩ := by
    refine ⟨rfl, by simp; omega, hfew, ⟨Keep.refl _ _, fun d x hx => ?_, fun b o x _ => x, fun d d' r r' b o hne h1 h2 => absurd ((hlk d r h1).1.trans (hlk d' r' h2).1.symm) hne, fun d cs _ hx => (by cases (hlk d _ hx).2), fun d r hd _ b o hf => .inr ⟨d, r, hd, hf⟩⟩, fun t v hv => ?_⟩
    · obtain ⟨rfl, rfl⟩ := hlk d x hx
      exact hhold.mono hrdle
    · rcases look_append _ _ _ _ hv with hv1 | hv1
      · obtain ⟨_, h2⟩ := look_initT args 0 t v hv1
        obtain ⟨u, h3, h4⟩ := hargs (t - 0) v h2
        simp only [Nat.sub_zero] at h3
        refine ⟨u, ?_, h4.mono hrdle⟩
        have htn := (Array.getElem?_eq_some_iff.1 h3).1
        rw [slotAt, if_pos (by omega)]
        rw [Array.getElem?_append_left (Array.getElem?_eq_some_iff.1 h3).1]
        exact h3
      · simp only [ghostOf, look_cons] at hv1
        split at hv1
        · rename_i ht
          obtain rfl := Option.some.inj hv1
          refine ⟨_, ?_, hgh⟩
          rw [← ht, slotAt, if_neg (by omega)]
          simp [K]
        · simp [look] at hv1
  refine calls_of_wp hf hb (wp_mono (ht K _ w ⟨g, hR⟩) fun e a' w' hq => ?_)
  obtain ⟨s', ⟨g', r'⟩, q⟩ := hq
  have fin : ((∃ xs, resL P s' kss fn.results.toList = some xs ∧ resV xs = some r) ∧ look s'.hp 1000001 = some (.spare el sz N') ∧ ∃ sz1 xs, look s'.tmps 2000000 = some (.c (.slc sz1 1000003 N xs))) → a'.defers = [] ∧ ∃ v, (results fn a'.tmps).run P w' = .ok v w' ∧ ∃ u g', Ending.returned v = .returned u ∧ Keep w (Foot g 1000001 (.spare el sz N)) w' ∧ (∀ b o, Foot g' 1000001 (.spare el sz N') b o → Foot g 1000001 (.spare el sz N) b o ∨ w.heap.size ≤ b) ∧ ((g'.tk 1000001).2 = (g.tk 1000001).2 ∨ vlen (g.tk 1000001).2 < vlen (g'.tk 1000001).2) ∧
      ∀ rd', rd.le rd' → SeesX w (Foot g 1000001 (.spare el sz N)) rd' w' (Foot g' 1000001 (.spare el sz N')) → VRel rd' g' u r ∧ Holds rd' g' w' 1000001 (.spare el sz N') := by
    rintro ⟨⟨xs, h1, h2⟩, h3, sz1, xs1, h6⟩
    obtain ⟨u, h4, h5⟩ := run_results r'.view h1 h2
    have hin : ∀ b o, Foot g' 1000001 (.spare el sz N') b o → InFoot g' s'.hp b o := fun b o x => ⟨_, _, h3, x⟩
    obtain ⟨V, q1, q2⟩ := r'.tmps _ _ h6
    have hV : V = (g.tk 1000001).2 := by
      rw [slotAt, if_neg (by omega)] at q1
      simpa [K] using q1.symm
    obtain ⟨_, q4⟩ := q2
    have q5 : N ≤ vlen (g'.tk 1000001).2 := q4.1
    have q6 : N = vlen (g'.tk 1000001).2 → V = (g'.tk 1000001).2 := q4.2
    refine ⟨r'.defers, u, h4, u, g', rfl, r'.hg.keep.weak (fun b o x => infoot_one.1 x), ?_, ?_, ?_⟩
    · intro b o hx
      rcases Nat.lt_or_ge b w.heap.size with hb' | hb'
      · exact .inl (infoot_one.1 (r'.hg.may b o (hin b o hx) hb'))
      · exact .inr hb'
    · by_cases hN : N = vlen (g'.tk 1000001).2
      · left; rw [← hV]; exact (q6 hN).symm
      · right; rw [hvN]; omega
    · intro rd' hle hs
      have hle' : (rdOf K g' s'.hp w').le rd' := by
        intro b o v hv
        have hcell := rdOf_le g' s'.hp r'.hg.keep b o v hv
        unfold rdOf at hv
        split at hv
        · cases hv
        · rename_i hx
          split at hv
          · exact hle b o v hv
          · rename_i hbb
            refine hs b o v ?_ (fun q => hx (hin b o q)) hcell
            rcases Nat.lt_or_ge b w.heap.size with h6 | h6
            · exact .inr (infoot_one.1 (Classical.byContradiction fun h7 => hbb ⟨h6, h7⟩))
            · exact .inl h6
      exact ⟨h5.mono hle', (r'.hg.holds _ _ h3).mono hle'⟩
  cases e <;> simp only [QS, retG] at q <;> simp only [bodyPost]
  case normal => exact fin q
  case ret => exact fin q
end
section
open Go.RowKit

section
variable {P : Program} {K : Ctx} {n : Nat} {Q : Exit → St → Prop} {C : Cfg} {D : Dr} {s : St} {o : Oper} {α : Type}
def appNZArgs (P : Program) (s : St) (o : Oper) : Option (Nat × Nat × Nat × List SC × Int) := match o.op with
  | .call { callee := .builtin .append, args := xs, argTypes := ts } => match xs.toList, ts.toList with
    | [x, y], [t, t'] => match P.underlying t, P.underlying t' with
      | some (.slice e), some (.int _) => match P.info? e with
        | some ie => match ie.zero, opd s x, opd s y with
          | some z, some (.c (.lit (.slice none 0 0))), some (.c (.lit (.int _ m))) => if z.cells.size = ie.size ∧ 0 < ie.size then some (e, ie.size, ie.bytes, z.cells.toList.map SC.lit, m) else none
          | _, _, _ => none
        | none => none
      | _, _ => none
    | _, _ => none
  | _ => none
theorem own_appNZ {e sz by_ : Nat} (f : α → List SC) (z0 : α) (ks : List Nat) {cs : List SC} {m : Int} {l' : List α} (he : appZO by_ ([] : List α) z0 m = some l') (h : appNZArgs P s o = some (e, sz, by_, cs, m)) (hf : castL ks cs = f z0) : OwnOp P o s e sz (l'.map f) := by
  unfold appNZArgs at h
  split at h
  rotate_left
  · cases h
  rename_i xs ts ho
  split at h
  rotate_left
  · cases h
  rename_i x y t t' hxs hts
  have hxs' : xs = #[x, y] := by rw [← Array.toArray_toList (xs := xs), hxs]
  have hts' : ts = #[t, t'] := by rw [← Array.toArray_toList (xs := ts), hts]
  subst hxs'
  subst hts'
  split at h
  rotate_left
  · cases h
  rename_i e1 kn hu hu'
  split at h
  rotate_left
  · cases h
  rename_i ie hi
  split at h
  rotate_left
  · cases h
  rename_i z kq m1 hz hx hy
  split at h
  rotate_left
  · cases h
  rename_i hq
  obtain ⟨hzc, hs0⟩ := hq
  cases h
  simp only [appZO] at he
  split at he
  rotate_left
  · cases he
  rename_i hm0
  obtain ⟨M, rfl⟩ : ∃ M : Nat, m = (M : Int) := ⟨m.toNat, by omega⟩
  rw [Int.toNat_natCast] at he
  simp only [appO, List.nil_append] at he
  split at he
  rotate_left
  · cases he
  rename_i hb
  cases he
  simp only [List.length_nil, Nat.zero_add, List.length_replicate] at hb
  intro g rd a w hview
  have hvx := rel_lit (hview.op x _ (by simp [ho, Op.operands, Call.operands]) hx)
  have hvy := rel_lit (hview.op y _ (by simp [ho, Op.operands, Call.operands]) hy)
  simp only [execOp, ho, resolve, invoke, builtin, Sem.run_bind, Sem.run_pure, Result.andThen_ok, List.map_toArray, List.map_cons, List.map_nil]
  rw [hvx, hvy]
  by_cases hM : M = 0
  · subst hM
    have hr : (Builtin.append_ #[t, t'] o.type #[.slice none 0 0, .int kq ((0 : Nat) : Int)]).run P w = .ok (.slice none 0 0) w := by
      have hw0 : IntKind.i64.wrap 0 = 0 := rfl
      simp [Builtin.append_, run_underlying hu, run_underlying hu', sizeOf, typeInfo, hi, asInt, asIntOf, hw0]
    rw [hr]
    simp only [Result.andThen_ok, List.replicate_zero, List.map_nil]
    exact ⟨_, _, [], rfl, Ext.refl w, World.ownsRow_nil w 0 e ie.size, by simp [Value.ownBlock], by simp, by simp⟩
  have hpos : 0 < M := Nat.pos_of_ne_zero hM
  have hr := Go.Lib.run_append_nil_zeros (P := P) w t t' o.type e ie z kq kn hu hu' hi hz M hpos hs0 (by omega) (by omega)
  rw [hr]
  simp only [Result.andThen_ok]
  have hge := grownCap_ge w M 0 e
  have hcm := grownCap_le_maxLen w M 0 e (by unfold maxLen; omega)
  have hzl : (Builtin.zeroCells z.cells M).toList.length = M * ie.size := by simp [Builtin.zeroCells, hzc]
  refine ⟨_, _, (Builtin.zeroCells z.cells M).toList, rfl, (Ext.drew w).trans (Ext.alloc _ _), ⟨by rw [hzl, List.length_map, List.length_replicate], .inr ⟨w.heap.size, grownCap w M 0 e, _, by rw [List.length_map, List.length_replicate], Nat.zero_le _, heap_alloc_new w.drew _, by rw [List.length_map, List.length_replicate]; exact hge, hcm, ?_, ?_⟩⟩, fun b hb' => ?_, zeroCells_row M f z0 ks hzc hf⟩
  · simp only [Array.size_append, size_zeroCells, hzc, ← Nat.add_mul]
    congr 1
    omega
  · rw [List.length_map, List.length_replicate, Array.toList_append, ← hzl]
    exact List.take_left
  · simp only [Value.ownBlock, Option.some.injEq] at hb'; omega
theorem TS_appNZR (d e sz : Nat) {by_ : Nat} (f : α → List SC) (z0 : α) (ks : List Nat) {cs : List SC} {m : Int} {l' : List α} (he : appZO by_ ([] : List α) z0 m = some l') (hf : castL ks cs = f z0) (h : C.with1 (appNZArgs P) = some (e, sz, by_, cs, m)) (hg : C.okNew n d = true) (kk : TS P K n (C.next ((C.st.setR d (.row e sz (l'.length) (l'.map f))).put (some d) (.c (.own d)))) Q) : TS P K n C Q := by
  refine TS_ownR (e := e) (sz := sz) (xs := l'.map f) d (fun os o ho => own_appNZ f z0 ks he (with1_op h ho) hf) hg ?_
  rw [List.length_map]
  exact kk
end
end
end
section
open Go.RowKit
attribute [local irreducible] TS go TD goD

structure S_Prefix where
  IP : List Int
  Bits : Int
def S_Prefix.cs (x : S_Prefix) : List SC := arrS .u8 16 x.IP ++ [.lit (.int .i64 (x.Bits))]
def S_Prefix.eqb (x y : S_Prefix) : Bool := (arrEq 16 x.IP y.IP) && ((x.Bits == y.Bits) && true)

structure S_Destination where
  Dst : S_Prefix
  Src : S_Prefix
  Router : Int
def S_Destination.cs (x : S_Destination) : List SC := S_Prefix.cs x.Dst ++ S_Prefix.cs x.Src ++ [.lit (.int .u64 (x.Router))]
def S_Destination.eqb (x y : S_Destination) : Bool := (S_Prefix.eqb x.Dst y.Dst) && ((S_Prefix.eqb x.Src y.Src) && ((x.Router == y.Router) && true))

structure S_Notice where
  Kind : Int
  Seq : Int
  Metric : Int
  Neighbour : Int
  To : S_Destination
  Hops : Int
def S_Notice.cs (x : S_Notice) : List SC := [.lit (.int .i64 (x.Kind))] ++ [.lit (.int .u16 (x.Seq))] ++ [.lit (.int .i64 (x.Metric))] ++ [.lit (.int .u64 (x.Neighbour))] ++ S_Destination.cs x.To ++ [.lit (.int .i64 (x.Hops))]
def S_Notice.eqb (x y : S_Notice) : Bool := (x.Kind == y.Kind) && ((x.Seq == y.Seq) && ((x.Metric == y.Metric) && ((x.Neighbour == y.Neighbour) && ((S_Destination.eqb x.To y.To) && ((x.Hops == y.Hops) && true)))))

structure S_messages_state where
  elements : List Int
  router : Int
  dst : List Int
def S_messages_state.cs (x : S_messages_state) : List SC := [eS 1 (ecI .u8) (x.elements)] ++ [.lit (.int .u64 (x.router))] ++ arrS .u8 16 x.dst

structure S_multihopmade_Tape where
  l : List Int
  at_ : Int
def S_multihopmade_Tape.cs (x : S_multihopmade_Tape) : List SC := [eS 1 (ecI .i64) (x.l)] ++ [.lit (.int .i64 (x.at_))]

/-- multihop/metric.Valid -/
noncomputable def F_metric_Valid (a0 : Int) : Option (Bool) :=
  bif (decide (a0 ≥ 0)) then
    some ((decide (a0 ≤ 65535)))
  else
    some (false)
set_option maxRecDepth 100000 in
set_option maxHeartbeats 40000000 in
theorem ok_metric_Valid (a0 : Int) (r : Bool) (h : F_metric_Valid a0 = some r) : Con Try.prog 38 [.c (.lit (.int .i64 (a0)))] [] (.c (.lit (.bool (r)))) [] := by
  unfold F_metric_Valid at h
  refine con_of [] [] 9 Try.func38 rfl rfl (by kernel_rfl) (fun K => ?_)
  refine TS_go 9 ?_
  replace h := condO h
  rcases h with ⟨hb1, h⟩ | ⟨hb1, h⟩
  · refine TS_know 4 (b := true) hb1 (by kernel_rfl) (by kernel_rfl) ?_
    refine TS_know 5 (b := true) hb1 (by kernel_rfl) (by kernel_rfl) ?_
    refine TS_go 6 ?_
    have ret := Option.some.inj h
    subst ret
    exact TS_ret (by kernel_rfl) (by kernel_rfl) (by kernel_rfl)
  · refine TS_know 4 (b := false) hb1 (by kernel_rfl) (by kernel_rfl) ?_
    refine TS_know 5 (b := false) hb1 (by kernel_rfl) (by kernel_rfl) ?_
    refine TS_go 6 ?_
    have ret := Option.some.inj h
    subst ret
    exact TS_ret (by kernel_rfl) (by kernel_rfl) (by kernel_rfl)

/-- multihop/address.Mask -/
noncomputable def F_address_Mask_l1 (a0 : List Int) (s1 : Int × S_Prefix) : Option ((Int × S_Prefix) ⊕ (S_Prefix)) :=
  bif (decide (s1.1 < 16)) then
    bif decide ((0 : Int) ≤ s1.1 ∧ s1.1 < (16 : Int)) then
      bif decide (0 ≤ (if 8 < if IntKind.wrap .i64 (s1.2.Bits - (IntKind.wrap .i64 (8 * s1.1))) < 0 then 0 else IntKind.wrap .i64 (s1.2.Bits - (IntKind.wrap .i64 (8 * s1.1))) then 8 else if IntKind.wrap .i64 (s1.2.Bits - (IntKind.wrap .i64 (8 * s1.1))) < 0 then 0 else IntKind.wrap .i64 (s1.2.Bits - (IntKind.wrap .i64 (8 * s1.1))))) then
        bif decide ((0 : Int) ≤ s1.1 ∧ s1.1 < (16 : Int)) then
          some (Sum.inl (IntKind.wrap .i64 (s1.1 + 1), (S_Prefix.mk (setA 16 s1.2.IP (Int.toNat s1.1) (iandNot .u8 (List.getD a0 (Int.toNat s1.1) 0) (ishr .u8 255 (if 8 < if IntKind.wrap .i64 (s1.2.Bits - (IntKind.wrap .i64 (8 * s1.1))) < 0 then 0 else IntKind.wrap .i64 (s1.2.Bits - (IntKind.wrap .i64 (8 * s1.1))) then 8 else if IntKind.wrap .i64 (s1.2.Bits - (IntKind.wrap .i64 (8 * s1.1))) < 0 then 0 else IntKind.wrap .i64 (s1.2.Bits - (IntKind.wrap .i64 (8 * s1.1))))))) s1.2.Bits)))
        else none
      else none
    else none
  else
    some (Sum.inr s1.2)
noncomputable def F_address_Mask (a0 : List Int) (a1 : Int) : Option (S_Prefix) :=
  (loopO (F_address_Mask_l1 a0) (0, (S_Prefix.mk [0, 0, 0, 0, 0, 0, 0, 0, 0, 0, 0, 0, 0, 0, 0, 0] (if 128 < if a1 < 0 then 0 else a1 then 128 else if a1 < 0 then 0 else a1)))).bind fun b2 =>
  some (b2)
set_option maxRecDepth 100000 in
set_option maxHeartbeats 40000000 in
theorem ok_address_Mask (a0 : List Int) (a1 : Int) (r : S_Prefix) (h : F_address_Mask a0 a1 = some r) : Con Try.prog 58 [.agg (arrS .u8 16 a0), .c (.lit (.int .i64 (a1)))] [] (.agg (S_Prefix.cs r)) [] := by
  unfold F_address_Mask at h
  refine con_of [] [] 33 Try.func58 rfl rfl (by kernel_rfl) (fun K => ?_)
  refine TS_go 20 ?_
  refine TS_cut ⟨[(2, []), (4, []), (5, []), (12, [])], [(2, (2, [])), (4, (4, [])), (5, (5, []))]⟩ (.mk [.code (codeAt [1, 1, 0, 1, 0] (bodyOf Try.f58)), .blk 0, .code (codeAt [1, 1, 1] (bodyOf Try.f58))] .normal ⟨[(2, .c (.box 2 0)), (4, .c (.box 4 0)), (5, .c (.box 5 0)), (12, .c (.lit (.int .i64 (0))))], [(2, .box [.lit (.int .u8 ((a0.getD 0 0))), .lit (.int .u8 ((a0.getD 1 0))), .lit (.int .u8 ((a0.getD 2 0))), .lit (.int .u8 ((a0.getD 3 0))), .lit (.int .u8 ((a0.getD 4 0))), .lit (.int .u8 ((a0.getD 5 0))), .lit (.int .u8 ((a0.getD 6 0))), .lit (.int .u8 ((a0.getD 7 0))), .lit (.int .u8 ((a0.getD 8 0))), .lit (.int .u8 ((a0.getD 9 0))), .lit (.int .u8 ((a0.getD 10 0))), .lit (.int .u8 ((a0.getD 11 0))), .lit (.int .u8 ((a0.getD 12 0))), .lit (.int .u8 ((a0.getD 13 0))), .lit (.int .u8 ((a0.getD 14 0))), .lit (.int .u8 ((a0.getD 15 0)))]), (4, .box [.lit (.int .u8 (0)), .lit (.int .u8 (0)), .lit (.int .u8 (0)), .lit (.int .u8 (0)), .lit (.int .u8 (0)), .lit (.int .u8 (0)), .lit (.int .u8 (0)), .lit (.int .u8 (0)), .lit (.int .u8 (0)), .lit (.int .u8 (0)), .lit (.int .u8 (0)), .lit (.int .u8 (0)), .lit (.int .u8 (0)), .lit (.int .u8 (0)), .lit (.int .u8 (0)), .lit (.int .u8 (0)), .lit (.int .i64 (0))]), (5, .box [.lit (.int .u8 (0)), .lit (.int .u8 (0)), .lit (.int .u8 (0)), .lit (.int .u8 (0)), .lit (.int .u8 (0)), .lit (.int .u8 (0)), .lit (.int .u8 (0)), .lit (.int .u8 (0)), .lit (.int .u8 (0)), .lit (.int .u8 (0)), .lit (.int .u8 (0)), .lit (.int .u8 (0)), .lit (.int .u8 (0)), .lit (.int .u8 (0)), .lit (.int .u8 (0)), .lit (.int .u8 (0)), .lit (.int .i64 (if 128 < if a1 < 0 then 0 else a1 then 128 else if a1 < 0 then 0 else a1))])]⟩) (by kernel_rfl) (by kernel_rfl) ?_
  replace h := bindO h
  obtain ⟨y3, hl1, hK1⟩ := h
  refine TS_loopB (F_address_Mask_l1 a0) ⟨[(2, []), (4, []), (5, []), (12, [])], [(2, (2, [])), (4, (4, [])), (5, (5, []))]⟩ (fun (s1 : Int × S_Prefix) => [(12, .c (.lit (.int .i64 (s1.1))))]) (fun (s1 : Int × S_Prefix) => [(5, .box (S_Prefix.cs s1.2))]) (0, (S_Prefix.mk [0, 0, 0, 0, 0, 0, 0, 0, 0, 0, 0, 0, 0, 0, 0, 0] (if 128 < if a1 < 0 then 0 else a1 then 128 else if a1 < 0 then 0 else a1))) y3 (.exit 0) (fun (b : S_Prefix) => b) ⟨[(4, []), (5, [])], [(4, (4, [])), (5, (5, []))]⟩ (fun (b2 : S_Prefix) => []) (fun (b2 : S_Prefix) => [(5, .box (S_Prefix.cs b2))]) hl1 (by kernel_rfl) (by kernel_rfl) ?_ ?_
  · intro s1 x h hy1
    unfold F_address_Mask_l1 at h
    refine TS_go 5 ?_
    replace h := condO h
    rcases h with ⟨hb4, h⟩ | ⟨hb4, h⟩
    · refine TS_know 13 (b := true) hb4 (by kernel_rfl) (by kernel_rfl) ?_
      refine TS_T (by kernel_rfl) rfl ?_
      refine TS_go 19 ?_
      refine TS_draw (by kernel_rfl) ?_
      refine TD_go 2 ?_
      replace h := chkO h
      obtain ⟨hc5, h⟩ := h
      refine TD_idxA 2 0 16 (i := s1.1) hc5 (by kernel_rfl) (by kernel_rfl) ?_
      refine TD_ldA .u8 0 16 (i := s1.1) a0 hc5 (by kernel_rfl) (by kernel_rfl) ?_
      refine TD_go 1 ?_
      replace h := chkO h
      obtain ⟨hc6, h⟩ := h
      refine TD_num (op := .shr) (k := .u8) (k' := .i64) (m := 255) (i := if 8 < if IntKind.wrap .i64 (s1.2.Bits - (IntKind.wrap .i64 (8 * s1.1))) < 0 then 0 else IntKind.wrap .i64 (s1.2.Bits - (IntKind.wrap .i64 (8 * s1.1))) then 8 else if IntKind.wrap .i64 (s1.2.Bits - (IntKind.wrap .i64 (8 * s1.1))) < 0 then 0 else IntKind.wrap .i64 (s1.2.Bits - (IntKind.wrap .i64 (8 * s1.1)))) (of_decide_eq_true hc6) rfl (by simp) (by kernel_rfl) (by kernel_rfl) ?_
      refine TD_go 2 ?_
      replace h := chkO h
      obtain ⟨hc7, h⟩ := h
      refine TD_idxA 5 0 16 (i := s1.1) hc7 (by kernel_rfl) (by kernel_rfl) ?_
      refine TD_stA (k := .u8) (d := 5) 0 16 (i := s1.1) (v := iandNot .u8 (List.getD a0 (Int.toNat s1.1) 0) (ishr .u8 255 (if 8 < if IntKind.wrap .i64 (s1.2.Bits - (IntKind.wrap .i64 (8 * s1.1))) < 0 then 0 else IntKind.wrap .i64 (s1.2.Bits - (IntKind.wrap .i64 (8 * s1.1))) then 8 else if IntKind.wrap .i64 (s1.2.Bits - (IntKind.wrap .i64 (8 * s1.1))) < 0 then 0 else IntKind.wrap .i64 (s1.2.Bits - (IntKind.wrap .i64 (8 * s1.1)))))) s1.2.IP (pre := []) (post := [.lit (.int .i64 (s1.2.Bits))]) hc7 (by kernel_rfl) (by kernel_rfl) (by kernel_rfl) ?_
      refine TD_end (by kernel_rfl) ?_
      refine TS_go 5 ?_
      have ret := Option.some.inj h
      subst ret
      exact TS_againB _ ⟨[(2, []), (4, []), (5, []), (12, [])], [(2, (2, [])), (4, (4, [])), (5, (5, []))]⟩ rfl (by kernel_rfl) (by kernel_rfl)
    · refine TS_know 13 (b := false) hb4 (by kernel_rfl) (by kernel_rfl) ?_
      refine TS_F (by kernel_rfl) rfl ?_
      refine TS_go 2 ?_
      have ret := Option.some.inj h
      subst ret
      exact TS_brkB s1.2 ⟨[(4, []), (5, [])], [(4, (4, [])), (5, (5, []))]⟩ rfl (by kernel_rfl) (by kernel_rfl) (by kernel_rfl)
  · intro b2 hb
    subst y3
    have h := hK1
    refine TS_go 7 ?_
    have ret := Option.some.inj h
    subst ret
    exact TS_ret (by kernel_rfl) (by kernel_rfl) (by kernel_rfl)

/-- multihop/address.ValidPrefix -/
noncomputable def F_address_ValidPrefix (a0 : S_Prefix) : Option (Bool) :=
  bif (decide (a0.Bits ≥ 0)) then
    bif (decide (a0.Bits ≤ 128)) then
      (F_address_Mask a0.IP a0.Bits).bind fun v3 =>
      some ((S_Prefix.eqb v3 a0))
    else
      some (false)
  else
    some (false)
set_option maxRecDepth 100000 in
set_option maxHeartbeats 40000000 in
theorem ok_address_ValidPrefix (a0 : S_Prefix) (r : Bool) (h : F_address_ValidPrefix a0 = some r) : Con Try.prog 40 [.agg (S_Prefix.cs a0)] [] (.c (.lit (.bool (r)))) [] := by
  unfold F_address_ValidPrefix at h
  refine con_of [] [] 20 Try.func40 rfl rfl (by kernel_rfl) (fun K => ?_)
  refine TS_go 6 ?_
  refine TS_draw (by kernel_rfl) ?_
  refine TD_go 3 ?_
  replace h := condO h
  rcases h with ⟨hb1, h⟩ | ⟨hb1, h⟩
  · refine TD_know 6 (b := true) hb1 trivial (by kernel_rfl) (by kernel_rfl) ?_
    refine TD_go 4 ?_
    replace h := condO h
    rcases h with ⟨hb2, h⟩ | ⟨hb2, h⟩
    · refine TD_know 11 (b := true) hb2 trivial (by kernel_rfl) (by kernel_rfl) ?_
      refine TD_go 4 ?_
      replace h := bindO h
      obtain ⟨v3, hv3, h⟩ := h
      refine TD_call [] (ok_address_Mask a0.IP a0.Bits v3 hv3) (by kernel_rfl) (by kernel_rfl) ?_
      refine TD_go 4 ?_
      refine TD_end (by kernel_rfl) ?_
      refine TS_go 1 ?_
      have ret := Option.some.inj h
      subst ret
      exact TS_ret (by kernel_rfl) (by kernel_rfl) (by kernel_rfl)
    · refine TD_know 11 (b := false) hb2 trivial (by kernel_rfl) (by kernel_rfl) ?_
      refine TD_go 9 ?_
      refine TD_end (by kernel_rfl) ?_
      refine TS_go 1 ?_
      have ret := Option.some.inj h
      subst ret
      exact TS_ret (by kernel_rfl) (by kernel_rfl) (by kernel_rfl)
  · refine TD_know 6 (b := false) hb1 trivial (by kernel_rfl) (by kernel_rfl) ?_
    refine TD_go 14 ?_
    refine TD_end (by kernel_rfl) ?_
    refine TS_go 1 ?_
    have ret := Option.some.inj h
    subst ret
    exact TS_ret (by kernel_rfl) (by kernel_rfl) (by kernel_rfl)

/-- multihop/sources.ValidTo -/
noncomputable def F_sources_ValidTo (a0 : S_Destination) : Option (Bool) :=
  (F_address_ValidPrefix a0.Dst).bind fun v1 =>
  bif v1 then
    (F_address_ValidPrefix a0.Src).bind fun v3 =>
    bif v3 then
      some ((a0.Router != 0))
    else
      some (false)
  else
    some (false)
set_option maxRecDepth 100000 in
set_option maxHeartbeats 40000000 in
theorem ok_sources_ValidTo (a0 : S_Destination) (r : Bool) (h : F_sources_ValidTo a0 = some r) : Con Try.prog 39 [.agg (S_Destination.cs a0)] [] (.c (.lit (.bool (r)))) [] := by
  unfold F_sources_ValidTo at h
  refine con_of [] [] 16 Try.func39 rfl rfl (by kernel_rfl) (fun K => ?_)
  refine TS_go 9 ?_
  replace h := bindO h
  obtain ⟨v1, hv1, h⟩ := h
  refine TS_call [] (ok_address_ValidPrefix a0.Dst v1 hv1) (by kernel_rfl) (by kernel_rfl) ?_
  refine TS_go 1 ?_
  replace h := condO h
  rcases h with ⟨hb2, h⟩ | ⟨hb2, h⟩
  · subst hb2
    refine TS_go 2 ?_
    replace h := bindO h
    obtain ⟨v3, hv3, h⟩ := h
    refine TS_call [] (ok_address_ValidPrefix a0.Src v3 hv3) (by kernel_rfl) (by kernel_rfl) ?_
    refine TS_go 2 ?_
    replace h := condO h
    rcases h with ⟨hb4, h⟩ | ⟨hb4, h⟩
    · subst hb4
      refine TS_go 7 ?_
      have ret := Option.some.inj h
      subst ret
      exact TS_ret (by kernel_rfl) (by kernel_rfl) (by kernel_rfl)
    · subst hb4
      refine TS_go 7 ?_
      have ret := Option.some.inj h
      subst ret
      exact TS_ret (by kernel_rfl) (by kernel_rfl) (by kernel_rfl)
  · subst hb2
    refine TS_go 12 ?_
    have ret := Option.some.inj h
    subst ret
    exact TS_ret (by kernel_rfl) (by kernel_rfl) (by kernel_rfl)

/-- multihop/messages.Valid -/
noncomputable def F_messages_Valid (a0 : S_Notice) : Option (Bool) :=
  bif (a0.Kind == 1) then
    some ((S_Notice.eqb a0 (S_Notice.mk a0.Kind a0.Seq 0 0 (S_Destination.mk (S_Prefix.mk [0, 0, 0, 0, 0, 0, 0, 0, 0, 0, 0, 0, 0, 0, 0, 0] 0) (S_Prefix.mk [0, 0, 0, 0, 0, 0, 0, 0, 0, 0, 0, 0, 0, 0, 0, 0] 0) 0) 0)))
  else
    bif (a0.Kind == 2) then
      bif (S_Notice.eqb a0 (S_Notice.mk a0.Kind 0 a0.Metric a0.Neighbour (S_Destination.mk (S_Prefix.mk [0, 0, 0, 0, 0, 0, 0, 0, 0, 0, 0, 0, 0, 0, 0, 0] 0) (S_Prefix.mk [0, 0, 0, 0, 0, 0, 0, 0, 0, 0, 0, 0, 0, 0, 0, 0] 0) 0) 0)) then
        bif (a0.Neighbour != 0) then
          (F_metric_Valid a0.Metric).bind fun v5 =>
          some (v5)
        else
          some (false)
      else
        some (false)
    else
      bif (a0.Kind == 3) then
        bif (S_Notice.eqb a0 (S_Notice.mk a0.Kind a0.Seq a0.Metric 0 a0.To 0)) then
          (F_sources_ValidTo a0.To).bind fun v8 =>
          bif v8 then
            (F_metric_Valid a0.Metric).bind fun v10 =>
            some (v10)
          else
            some (false)
        else
          some (false)
      else
        bif (a0.Kind == 4) then
          bif (S_Notice.eqb a0 (S_Notice.mk a0.Kind 0 0 0 a0.To 0)) then
            bif (a0.To.Router == 0) then
              (F_address_ValidPrefix a0.To.Dst).bind fun v14 =>
              bif v14 then
                (F_address_ValidPrefix a0.To.Src).bind fun v16 =>
                some (v16)
              else
                some (false)
            else
              some (false)
          else
            some (false)
        else
          bif (a0.Kind == 5) then
            bif (S_Notice.eqb a0 (S_Notice.mk a0.Kind a0.Seq 0 0 a0.To a0.Hops)) then
              (F_sources_ValidTo a0.To).bind fun v19 =>
              bif v19 then
                bif (decide (a0.Hops ≥ 1)) then
                  some ((decide (a0.Hops ≤ 32)))
                else
                  some (false)
              else
                some (false)
            else
              some (false)
          else
            some (false)
set_option maxRecDepth 100000 in
set_option maxHeartbeats 40000000 in
theorem ok_messages_Valid (a0 : S_Notice) (r : Bool) (h : F_messages_Valid a0 = some r) : Con Try.prog 16 [.agg (S_Notice.cs a0)] [] (.c (.lit (.bool (r)))) [] := by
  unfold F_messages_Valid at h
  refine con_of [] [] 117 Try.func16 rfl rfl (by kernel_rfl) (fun K => ?_)
  refine TS_go 25 ?_
  replace h := condO h
  rcases h with ⟨hb1, h⟩ | ⟨hb1, h⟩
  · refine TS_know 10 (b := true) hb1 (by kernel_rfl) (by kernel_rfl) ?_
    refine TS_know 9 (b := true) hb1 (by kernel_rfl) (by kernel_rfl) ?_
    refine TS_T (by kernel_rfl) rfl ?_
    refine TS_go 17 ?_
    have ret := Option.some.inj h
    subst ret
    exact TS_ret (by kernel_rfl) (by kernel_rfl) (by kernel_rfl)
  · refine TS_know 10 (b := false) hb1 (by kernel_rfl) (by kernel_rfl) ?_
    refine TS_know 9 (b := false) hb1 (by kernel_rfl) (by kernel_rfl) ?_
    refine TS_F (by kernel_rfl) rfl ?_
    refine TS_go 5 ?_
    replace h := condO h
    rcases h with ⟨hb2, h⟩ | ⟨hb2, h⟩
    · refine TS_know 18 (b := true) hb2 (by kernel_rfl) (by kernel_rfl) ?_
      refine TS_know 17 (b := true) hb2 (by kernel_rfl) (by kernel_rfl) ?_
      refine TS_T (by kernel_rfl) rfl ?_
      refine TS_go 1 ?_
      refine TS_draw (by kernel_rfl) ?_
      refine TD_go 8 ?_
      refine TD_end (by kernel_rfl) ?_
      refine TS_go 6 ?_
      replace h := condO h
      rcases h with ⟨hb3, h⟩ | ⟨hb3, h⟩
      · refine TS_know 27 (b := true) hb3 (by kernel_rfl) (by kernel_rfl) ?_
        refine TS_know 28 (b := true) hb3 (by kernel_rfl) (by kernel_rfl) ?_
        refine TS_go 5 ?_
        replace h := condO h
        rcases h with ⟨hb4, h⟩ | ⟨hb4, h⟩
        · refine TS_know 31 (b := true) hb4 (by kernel_rfl) (by kernel_rfl) ?_
          refine TS_know 32 (b := true) hb4 (by kernel_rfl) (by kernel_rfl) ?_
          refine TS_know 33 (b := true) hb4 (by kernel_rfl) (by kernel_rfl) ?_
          refine TS_go 2 ?_
          replace h := bindO h
          obtain ⟨v5, hv5, h⟩ := h
          refine TS_call [] (ok_metric_Valid a0.Metric v5 hv5) (by kernel_rfl) (by kernel_rfl) ?_
          refine TS_go 6 ?_
          have ret := Option.some.inj h
          subst ret
          exact TS_ret (by kernel_rfl) (by kernel_rfl) (by kernel_rfl)
        · refine TS_know 31 (b := false) hb4 (by kernel_rfl) (by kernel_rfl) ?_
          refine TS_know 32 (b := false) hb4 (by kernel_rfl) (by kernel_rfl) ?_
          refine TS_know 33 (b := false) hb4 (by kernel_rfl) (by kernel_rfl) ?_
          refine TS_go 9 ?_
          have ret := Option.some.inj h
          subst ret
          exact TS_ret (by kernel_rfl) (by kernel_rfl) (by kernel_rfl)
      · refine TS_know 27 (b := false) hb3 (by kernel_rfl) (by kernel_rfl) ?_
        refine TS_know 28 (b := false) hb3 (by kernel_rfl) (by kernel_rfl) ?_
        refine TS_go 14 ?_
        have ret := Option.some.inj h
        subst ret
        exact TS_ret (by kernel_rfl) (by kernel_rfl) (by kernel_rfl)
    · refine TS_know 18 (b := false) hb2 (by kernel_rfl) (by kernel_rfl) ?_
      refine TS_know 17 (b := false) hb2 (by kernel_rfl) (by kernel_rfl) ?_
      refine TS_F (by kernel_rfl) rfl ?_
      refine TS_go 5 ?_
      replace h := condO h
      rcases h with ⟨hb6, h⟩ | ⟨hb6, h⟩
      · refine TS_know 39 (b := true) hb6 (by kernel_rfl) (by kernel_rfl) ?_
        refine TS_know 38 (b := true) hb6 (by kernel_rfl) (by kernel_rfl) ?_
        refine TS_T (by kernel_rfl) rfl ?_
        refine TS_go 1 ?_
        refine TS_draw (by kernel_rfl) ?_
        refine TD_go 12 ?_
        refine TD_end (by kernel_rfl) ?_
        refine TS_go 6 ?_
        replace h := condO h
        rcases h with ⟨hb7, h⟩ | ⟨hb7, h⟩
        · refine TS_know 51 (b := true) hb7 (by kernel_rfl) (by kernel_rfl) ?_
          refine TS_know 52 (b := true) hb7 (by kernel_rfl) (by kernel_rfl) ?_
          refine TS_go 2 ?_
          replace h := bindO h
          obtain ⟨v8, hv8, h⟩ := h
          refine TS_call [] (ok_sources_ValidTo a0.To v8 hv8) (by kernel_rfl) (by kernel_rfl) ?_
          refine TS_go 2 ?_
          replace h := condO h
          rcases h with ⟨hb9, h⟩ | ⟨hb9, h⟩
          · subst hb9
            refine TS_go 2 ?_
            replace h := bindO h
            obtain ⟨v10, hv10, h⟩ := h
            refine TS_call [] (ok_metric_Valid a0.Metric v10 hv10) (by kernel_rfl) (by kernel_rfl) ?_
            refine TS_go 6 ?_
            have ret := Option.some.inj h
            subst ret
            exact TS_ret (by kernel_rfl) (by kernel_rfl) (by kernel_rfl)
          · subst hb9
            refine TS_go 9 ?_
            have ret := Option.some.inj h
            subst ret
            exact TS_ret (by kernel_rfl) (by kernel_rfl) (by kernel_rfl)
        · refine TS_know 51 (b := false) hb7 (by kernel_rfl) (by kernel_rfl) ?_
          refine TS_know 52 (b := false) hb7 (by kernel_rfl) (by kernel_rfl) ?_
          refine TS_go 14 ?_
          have ret := Option.some.inj h
          subst ret
          exact TS_ret (by kernel_rfl) (by kernel_rfl) (by kernel_rfl)
      · refine TS_know 39 (b := false) hb6 (by kernel_rfl) (by kernel_rfl) ?_
        refine TS_know 38 (b := false) hb6 (by kernel_rfl) (by kernel_rfl) ?_
        refine TS_F (by kernel_rfl) rfl ?_
        refine TS_go 5 ?_
        replace h := condO h
        rcases h with ⟨hb11, h⟩ | ⟨hb11, h⟩
        · refine TS_know 63 (b := true) hb11 (by kernel_rfl) (by kernel_rfl) ?_
          refine TS_know 62 (b := true) hb11 (by kernel_rfl) (by kernel_rfl) ?_
          refine TS_T (by kernel_rfl) rfl ?_
          refine TS_go 13 ?_
          replace h := condO h
          rcases h with ⟨hb12, h⟩ | ⟨hb12, h⟩
          · refine TS_know 69 (b := true) hb12 (by kernel_rfl) (by kernel_rfl) ?_
            refine TS_know 70 (b := true) hb12 (by kernel_rfl) (by kernel_rfl) ?_
            refine TS_go 6 ?_
            replace h := condO h
            rcases h with ⟨hb13, h⟩ | ⟨hb13, h⟩
            · refine TS_know 74 (b := true) hb13 (by kernel_rfl) (by kernel_rfl) ?_
              refine TS_know 75 (b := true) hb13 (by kernel_rfl) (by kernel_rfl) ?_
              refine TS_know 76 (b := true) hb13 (by kernel_rfl) (by kernel_rfl) ?_
              refine TS_go 3 ?_
              replace h := bindO h
              obtain ⟨v14, hv14, h⟩ := h
              refine TS_call [] (ok_address_ValidPrefix a0.To.Dst v14 hv14) (by kernel_rfl) (by kernel_rfl) ?_
              refine TS_go 2 ?_
              replace h := condO h
              rcases h with ⟨hb15, h⟩ | ⟨hb15, h⟩
              · subst hb15
                refine TS_go 3 ?_
                replace h := bindO h
                obtain ⟨v16, hv16, h⟩ := h
                refine TS_call [] (ok_address_ValidPrefix a0.To.Src v16 hv16) (by kernel_rfl) (by kernel_rfl) ?_
                refine TS_go 6 ?_
                have ret := Option.some.inj h
                subst ret
                exact TS_ret (by kernel_rfl) (by kernel_rfl) (by kernel_rfl)
              · subst hb15
                refine TS_go 10 ?_
                have ret := Option.some.inj h
                subst ret
                exact TS_ret (by kernel_rfl) (by kernel_rfl) (by kernel_rfl)
            · refine TS_know 74 (b := false) hb13 (by kernel_rfl) (by kernel_rfl) ?_
              refine TS_know 75 (b := false) hb13 (by kernel_rfl) (by kernel_rfl) ?_
              refine TS_know 76 (b := false) hb13 (by kernel_rfl) (by kernel_rfl) ?_
              refine TS_go 16 ?_
              have ret := Option.some.inj h
              subst ret
              exact TS_ret (by kernel_rfl) (by kernel_rfl) (by kernel_rfl)
          · refine TS_know 69 (b := false) hb12 (by kernel_rfl) (by kernel_rfl) ?_
            refine TS_know 70 (b := false) hb12 (by kernel_rfl) (by kernel_rfl) ?_
            refine TS_go 22 ?_
            have ret := Option.some.inj h
            subst ret
            exact TS_ret (by kernel_rfl) (by kernel_rfl) (by kernel_rfl)
        · refine TS_know 63 (b := false) hb11 (by kernel_rfl) (by kernel_rfl) ?_
          refine TS_know 62 (b := false) hb11 (by kernel_rfl) (by kernel_rfl) ?_
          refine TS_F (by kernel_rfl) rfl ?_
          refine TS_go 5 ?_
          replace h := condO h
          rcases h with ⟨hb17, h⟩ | ⟨hb17, h⟩
          · refine TS_know 89 (b := true) hb17 (by kernel_rfl) (by kernel_rfl) ?_
            refine TS_know 88 (b := true) hb17 (by kernel_rfl) (by kernel_rfl) ?_
            refine TS_T (by kernel_rfl) rfl ?_
            refine TS_go 1 ?_
            refine TS_draw (by kernel_rfl) ?_
            refine TD_go 12 ?_
            refine TD_end (by kernel_rfl) ?_
            refine TS_go 6 ?_
            replace h := condO h
            rcases h with ⟨hb18, h⟩ | ⟨hb18, h⟩
            · refine TS_know 101 (b := true) hb18 (by kernel_rfl) (by kernel_rfl) ?_
              refine TS_know 102 (b := true) hb18 (by kernel_rfl) (by kernel_rfl) ?_
              refine TS_go 2 ?_
              replace h := bindO h
              obtain ⟨v19, hv19, h⟩ := h
              refine TS_call [] (ok_sources_ValidTo a0.To v19 hv19) (by kernel_rfl) (by kernel_rfl) ?_
              refine TS_go 2 ?_
              replace h := condO h
              rcases h with ⟨hb20, h⟩ | ⟨hb20, h⟩
              · subst hb20
                refine TS_go 5 ?_
                replace h := condO h
                rcases h with ⟨hb21, h⟩ | ⟨hb21, h⟩
                · refine TS_know 110 (b := true) hb21 (by kernel_rfl) (by kernel_rfl) ?_
                  refine TS_know 111 (b := true) hb21 (by kernel_rfl) (by kernel_rfl) ?_
                  refine TS_know 112 (b := true) hb21 (by kernel_rfl) (by kernel_rfl) ?_
                  refine TS_go 9 ?_
                  have ret := Option.some.inj h
                  subst ret
                  exact TS_ret (by kernel_rfl) (by kernel_rfl) (by kernel_rfl)
                · refine TS_know 110 (b := false) hb21 (by kernel_rfl) (by kernel_rfl) ?_
                  refine TS_know 111 (b := false) hb21 (by kernel_rfl) (by kernel_rfl) ?_
                  refine TS_know 112 (b := false) hb21 (by kernel_rfl) (by kernel_rfl) ?_
                  refine TS_go 9 ?_
                  have ret := Option.some.inj h
                  subst ret
                  exact TS_ret (by kernel_rfl) (by kernel_rfl) (by kernel_rfl)
              · subst hb20
                refine TS_go 14 ?_
                have ret := Option.some.inj h
                subst ret
                exact TS_ret (by kernel_rfl) (by kernel_rfl) (by kernel_rfl)
            · refine TS_know 101 (b := false) hb18 (by kernel_rfl) (by kernel_rfl) ?_
              refine TS_know 102 (b := false) hb18 (by kernel_rfl) (by kernel_rfl) ?_
              refine TS_go 19 ?_
              have ret := Option.some.inj h
              subst ret
              exact TS_ret (by kernel_rfl) (by kernel_rfl) (by kernel_rfl)
          · refine TS_know 89 (b := false) hb17 (by kernel_rfl) (by kernel_rfl) ?_
            refine TS_know 88 (b := false) hb17 (by kernel_rfl) (by kernel_rfl) ?_
            refine TS_F (by kernel_rfl) rfl ?_
            refine TS_go 7 ?_
            have ret := Option.some.inj h
            subst ret
            exact TS_ret (by kernel_rfl) (by kernel_rfl) (by kernel_rfl)

/-- multihop/messages.allValid -/
noncomputable def F_messages_allValid_l1 (a0 : List S_Notice) (s1 : Int) : Option ((Int) ⊕ ((Unit) ⊕ (Bool))) :=
  bif (decide (s1 < (List.length a0 : Int))) then
    (idx a0 s1).bind fun e5 =>
    (F_messages_Valid e5).bind fun v6 =>
    bif v6 then
      some (Sum.inl (IntKind.wrap .i64 (s1 + 1)))
    else
      some (Sum.inr (Sum.inr false))
  else
    some (Sum.inr (Sum.inl ()))
noncomputable def F_messages_allValid (a0 : List S_Notice) : Option (Bool) :=
  (loopO (F_messages_allValid_l1 a0) 0).bind (Sum.elim (fun b2 =>
    some (true)
  ) (fun w8 => some w8))
set_option maxRecDepth 100000 in
set_option maxHeartbeats 40000000 in
theorem ok_messages_allValid (a0 : List S_Notice) (r : Bool) (h : F_messages_allValid a0 = some r) : Con Try.prog 44 [.c (eS 40 S_Notice.cs (a0))] [] (.c (.lit (.bool (r)))) [] := by
  unfold F_messages_allValid at h
  refine con_of [] [] 15 Try.func44 rfl rfl (by kernel_rfl) (fun K => ?_)
  refine TS_go 12 ?_
  refine TS_cut ⟨[(5, []), (6, []), (7, [])], []⟩ (.mk [.code (codeAt [1, 0, 1, 0] (bodyOf Try.f44)), .blk 0, .code (codeAt [1, 1] (bodyOf Try.f44))] .normal ⟨[(5, .c (.slc 40 0 (List.length a0) (List.map S_Notice.cs a0))), (6, .c (.lit (.int .i64 ((List.length a0 : Int))))), (7, .c (.lit (.int .i64 (0))))], []⟩) (by kernel_rfl) (by kernel_rfl) ?_
  replace h := bindO h
  obtain ⟨y3, hl1, hK1⟩ := h
  refine TS_loopB (F_messages_allValid_l1 a0) ⟨[(5, []), (6, []), (7, [])], []⟩ (fun (s1 : Int) => [(7, .c (.lit (.int .i64 (s1))))]) (fun (s1 : Int) => []) 0 y3 (.exit 0) (fun (b : Unit) => (Sum.inl b : (Unit) ⊕ (Bool))) ⟨[], []⟩ (fun (b2 : Unit) => []) (fun (b2 : Unit) => []) hl1 (by kernel_rfl) (by kernel_rfl) ?_ ?_
  · intro s1 x h hy1
    unfold F_messages_allValid_l1 at h
    refine TS_go 5 ?_
    replace h := condO h
    rcases h with ⟨hb4, h⟩ | ⟨hb4, h⟩
    · refine TS_know 8 (b := true) hb4 (by kernel_rfl) (by kernel_rfl) ?_
      refine TS_T (by kernel_rfl) rfl ?_
      refine TS_go 5 ?_
      replace h := bindO h
      obtain ⟨e5, he5, h⟩ := h
      refine TS_idx S_Notice.cs he5 (by kernel_rfl) (by kernel_rfl) ?_
      refine TS_go 7 ?_
      replace h := bindO h
      obtain ⟨v6, hv6, h⟩ := h
      refine TS_call [] (ok_messages_Valid e5 v6 hv6) (by kernel_rfl) (by kernel_rfl) ?_
      refine TS_go 2 ?_
      replace h := condO h
      rcases h with ⟨hb7, h⟩ | ⟨hb7, h⟩
      · subst hb7
        refine TS_F (by kernel_rfl) rfl ?_
        refine TS_go 6 ?_
        have ret := Option.some.inj h
        subst ret
        exact TS_againB _ ⟨[(5, []), (6, []), (7, [])], []⟩ rfl (by kernel_rfl) (by kernel_rfl)
      · subst hb7
        refine TS_T (by kernel_rfl) rfl ?_
        refine TS_go 7 ?_
        have ret := Option.some.inj h
        subst ret
        have hy1q := hy1 _ rfl
        subst hy1q
        replace h := (elimR hK1)
        refine TS_retB rfl (by kernel_rfl) ?_
        refine TS_go 2 ?_
        have ret := Option.some.inj h
        subst ret
        exact TS_ret (by kernel_rfl) (by kernel_rfl) (by kernel_rfl)
    · refine TS_know 8 (b := false) hb4 (by kernel_rfl) (by kernel_rfl) ?_
      refine TS_F (by kernel_rfl) rfl ?_
      refine TS_go 2 ?_
      have ret := Option.some.inj h
      subst ret
      exact TS_brkB () ⟨[], []⟩ rfl (by kernel_rfl) (by kernel_rfl) (by kernel_rfl)
  · intro b2 hb
    subst y3
    have h := elimL hK1
    refine TS_go 6 ?_
    have ret := Option.some.inj h
    subst ret
    exact TS_ret (by kernel_rfl) (by kernel_rfl) (by kernel_rfl)

/-- multihop/messages.isCreation -/
noncomputable def F_messages_isCreation (a0 : Int) : Option (Bool) :=
  bif (decide (a0 ≥ 0)) then
    some ((decide (a0 < 1099511627776)))
  else
    some (false)
set_option maxRecDepth 100000 in
set_option maxHeartbeats 40000000 in
theorem ok_messages_isCreation (a0 : Int) (r : Bool) (h : F_messages_isCreation a0 = some r) : Con Try.prog 45 [.c (.lit (.int .i64 (a0)))] [] (.c (.lit (.bool (r)))) [] := by
  unfold F_messages_isCreation at h
  refine con_of [] [] 9 Try.func45 rfl rfl (by kernel_rfl) (fun K => ?_)
  refine TS_go 9 ?_
  replace h := condO h
  rcases h with ⟨hb1, h⟩ | ⟨hb1, h⟩
  · refine TS_know 4 (b := true) hb1 (by kernel_rfl) (by kernel_rfl) ?_
    refine TS_know 5 (b := true) hb1 (by kernel_rfl) (by kernel_rfl) ?_
    refine TS_go 6 ?_
    have ret := Option.some.inj h
    subst ret
    exact TS_ret (by kernel_rfl) (by kernel_rfl) (by kernel_rfl)
  · refine TS_know 4 (b := false) hb1 (by kernel_rfl) (by kernel_rfl) ?_
    refine TS_know 5 (b := false) hb1 (by kernel_rfl) (by kernel_rfl) ?_
    refine TS_go 6 ?_
    have ret := Option.some.inj h
    subst ret
    exact TS_ret (by kernel_rfl) (by kernel_rfl) (by kernel_rfl)

/-- multihop/octets.Append -/
noncomputable def F_octets_Append_l2 (v1 : Int) (a0 : List Int) (a1 : Int) (s3 : Int × (List Int)) : Option ((Int × (List Int)) ⊕ ((List Int))) :=
  bif (decide (s3.1 < v1)) then
    bif decide (0 ≤ (IntKind.wrap .i64 (8 * (IntKind.wrap .i64 ((IntKind.wrap .i64 (v1 - 1)) - s3.1))))) then
      (idx (Cut.app .whole s3.2) (IntKind.wrap .i64 ((List.length a0 : Int) + s3.1))).bind fun _e8 =>
      (s3.2[(0 + Int.toNat (IntKind.wrap .i64 ((List.length a0 : Int) + s3.1)))]?).bind fun _e9 =>
      some (Sum.inl (IntKind.wrap .i64 (s3.1 + 1), (List.set s3.2 (0 + Int.toNat (IntKind.wrap .i64 ((List.length a0 : Int) + s3.1))) (IntKind.wrap .u8 (ishr .u64 a1 (IntKind.wrap .i64 (8 * (IntKind.wrap .i64 ((IntKind.wrap .i64 (v1 - 1)) - s3.1)))))))))
    else none
  else
    some (Sum.inr s3.2)
noncomputable def F_octets_Append_j1 (a0 : List Int) (a1 : Int) (v1 : Int) : Option ((List Int)) :=
  (mkO 1 (IntKind.wrap .i64 ((List.length a0 : Int) + v1)) (IntKind.wrap .i64 ((List.length a0 : Int) + v1))).bind fun n2 =>
  (loopO (F_octets_Append_l2 v1 a0 a1) (0, (cpL (List.replicate n2 (0 : Int)) 0 (List.length (Cut.app .whole (List.replicate n2 (0 : Int)))) (Cut.app .whole a0)))).bind fun b4 =>
  some (b4)
noncomputable def F_octets_Append (a0 : List Int) (a1 : Int) (a2 : Int) : Option ((List Int)) :=
  bif (decide (a2 < 0)) then
    (F_octets_Append_j1 a0 a1) 0
  else
    bif (decide (a2 > 8)) then
      (F_octets_Append_j1 a0 a1) 0
    else
      (F_octets_Append_j1 a0 a1) a2
set_option maxRecDepth 100000 in
set_option maxHeartbeats 40000000 in
theorem okT_octets_Append (a0 : List Int) (a1 : Int) (a2 : Int) (r : (List Int)) (h : F_octets_Append a0 a1 a2 = some r) : Con Try.prog 61 [.c (eS 1 (ecI .u8) (a0)), .c (.lit (.int .u64 (a1))), .c (.lit (.int .i64 (a2)))] [] (.c (.slc 1 900002 (List.length r) (List.map (ecI .u8) r))) [(900000, .spare 5 1 (List.length r))] := by
  unfold F_octets_Append at h
  refine con_of [] [(900000, [])] 43 Try.func61 rfl rfl (by kernel_rfl) (fun K => ?_)
  refine TS_go 4 ?_
  refine TS_cut ⟨[(0, []), (1, []), (2, [])], []⟩ (.mk [.code (codeAt [1] (bodyOf Try.f61))] .normal ⟨[(0, .c (.slc 1 0 (List.length a0) (List.map (ecI .u8) a0))), (1, .c (.lit (.int .u64 (a1)))), (2, .c (.lit (.int .i64 (a2))))], []⟩) (by kernel_rfl) (by kernel_rfl) ?_
  refine TS_joinB ⟨[(0, []), (1, []), (2, [])], []⟩ (fun (v1 : Int) => [(2, .c (.lit (.int .i64 (v1))))]) (fun (v1 : Int) => []) (F_octets_Append_j1 a0 a1) r ?_ ?_
  · clear h
    intro v1 h
    unfold F_octets_Append_j1 at h
    refine TS_go 6 ?_
    replace h := bindO h
    obtain ⟨n2, hn2, h⟩ := h
    refine TS_makeR 19 5 1 (ecI .u8) (0 : Int) [] (cs := [.lit (.int .u8 (0))]) (l := IntKind.wrap .i64 ((List.length a0 : Int) + v1)) (c := IntKind.wrap .i64 ((List.length a0 : Int) + v1)) hn2 (by kernel_rfl) (by kernel_rfl) (by kernel_rfl) ?_
    refine TS_go 6 ?_
    refine TS_cpR 19 5 1 (List.length (List.replicate n2 (0 : Int))) 0 (ecI .u8) (fun _ => by kernel_rfl) (l := (List.replicate n2 (0 : Int))) (l2 := a0) .whole .whole (by kernel_rfl) (by kernel_rfl) ?_
    refine TS_go 8 ?_
    refine TS_cut ⟨[(0, []), (1, []), (2, []), (7, []), (23, []), (24, [])], [(19, (19, []))]⟩ (.mk [.code (codeAt [1, 1, 1, 1, 0, 1, 0] (bodyOf Try.f61)), .blk 0, .code (codeAt [1, 1, 1, 1, 1] (bodyOf Try.f61))] .normal ⟨[(0, .c (.slc 1 0 (List.length a0) (List.map (ecI .u8) a0))), (1, .c (.lit (.int .u64 (a1)))), (2, .c (.lit (.int .i64 (v1)))), (7, .c (.own 19)), (23, .c (.lit (.int .i64 (v1)))), (24, .c (.lit (.int .i64 (0))))], [(19, .row 5 1 (List.length (cpL (List.replicate n2 (0 : Int)) 0 (List.length (Cut.app .whole (List.replicate n2 (0 : Int)))) (Cut.app .whole a0))) (List.map (ecI .u8) (cpL (List.replicate n2 (0 : Int)) 0 (List.length (Cut.app .whole (List.replicate n2 (0 : Int)))) (Cut.app .whole a0))))]⟩) (by kernel_rfl) (by kernel_rfl) ?_
    replace h := bindO h
    obtain ⟨y5, hl2, hK2⟩ := h
    refine TS_loopB (F_octets_Append_l2 v1 a0 a1) ⟨[(0, []), (1, []), (2, []), (7, []), (23, []), (24, [])], [(19, (19, []))]⟩ (fun (s3 : Int × (List Int)) => [(24, .c (.lit (.int .i64 (s3.1))))]) (fun (s3 : Int × (List Int)) => [(19, .row 5 1 (List.length s3.2) (List.map (ecI .u8) s3.2))]) (0, (cpL (List.replicate n2 (0 : Int)) 0 (List.length (Cut.app .whole (List.replicate n2 (0 : Int)))) (Cut.app .whole a0))) y5 (.exit 0) (fun (b : (List Int)) => b) ⟨[(7, [])], [(19, (19, []))]⟩ (fun (b4 : (List Int)) => []) (fun (b4 : (List Int)) => [(19, .row 5 1 (List.length b4) (List.map (ecI .u8) b4))]) hl2 (by kernel_rfl) (by kernel_rfl) ?_ ?_
    · intro s3 x h hy2
      unfold F_octets_Append_l2 at h
      refine TS_go 5 ?_
      replace h := condO h
      rcases h with ⟨hb6, h⟩ | ⟨hb6, h⟩
      · refine TS_know 25 (b := true) hb6 (by kernel_rfl) (by kernel_rfl) ?_
        refine TS_T (by kernel_rfl) rfl ?_
        refine TS_go 20 ?_
        replace h := chkO h
        obtain ⟨hc7, h⟩ := h
        refine TS_num (op := .shr) (k := .u64) (k' := .i64) (m := a1) (i := IntKind.wrap .i64 (8 * (IntKind.wrap .i64 ((IntKind.wrap .i64 (v1 - 1)) - s3.1)))) (of_decide_eq_true hc7) rfl (by simp) (by kernel_rfl) (by kernel_rfl) ?_
        refine TS_go 1 ?_
        replace h := bindO h
        obtain ⟨_e8, he8, h⟩ := h
        refine TS_idxR 19 1 0 (ecI .u8) .whole he8 (by kernel_rfl) (by kernel_rfl) ?_
        replace h := bindO h
        obtain ⟨_e9, he9, h⟩ := h
        refine TS_stE 19 5 1 (List.length s3.2) (0 + Int.toNat (IntKind.wrap .i64 ((List.length a0 : Int) + s3.1))) 0 (ecI .u8) (ds := [.lit (.int .u8 (IntKind.wrap .u8 (ishr .u64 a1 (IntKind.wrap .i64 (8 * (IntKind.wrap .i64 ((IntKind.wrap .i64 (v1 - 1)) - s3.1)))))))]) (IntKind.wrap .u8 (ishr .u64 a1 (IntKind.wrap .i64 (8 * (IntKind.wrap .i64 ((IntKind.wrap .i64 (v1 - 1)) - s3.1)))))) he9 (by kernel_rfl) (by kernel_rfl) (by kernel_rfl) (by kernel_rfl) ?_
        refine TS_go 6 ?_
        have ret := Option.some.inj h
        subst ret
        exact TS_againB _ ⟨[(0, []), (1, []), (2, []), (7, []), (23, []), (24, [])], [(19, (19, []))]⟩ rfl (by kernel_rfl) (by kernel_rfl)
      · refine TS_know 25 (b := false) hb6 (by kernel_rfl) (by kernel_rfl) ?_
        refine TS_F (by kernel_rfl) rfl ?_
        refine TS_go 2 ?_
        have ret := Option.some.inj h
        subst ret
        exact TS_brkB s3.2 ⟨[(7, [])], [(19, (19, []))]⟩ rfl (by kernel_rfl) (by kernel_rfl) (by kernel_rfl)
    · intro b4 hb
      subst y5
      have h := hK2
      refine TS_go 6 ?_
      refine TS_settle 19 (by kernel_rfl) ?_
      refine TS_fitU ⟨[(6, [])], [(19, (900000, []))]⟩ (by kernel_rfl) ?_
      refine TS_go 1 ?_
      have ret := Option.some.inj h
      subst ret
      exact TS_ret (by kernel_rfl) (by kernel_rfl) (by kernel_rfl)
  · refine TS_go 5 ?_
    replace h := condO h
    rcases h with ⟨hb11, h⟩ | ⟨hb11, h⟩
    · refine TS_know 10 (b := true) hb11 (by kernel_rfl) (by kernel_rfl) ?_
      refine TS_know 11 (b := true) hb11 (by kernel_rfl) (by kernel_rfl) ?_
      refine TS_go 4 ?_
      refine TS_T (by kernel_rfl) rfl ?_
      refine TS_go 3 ?_
      exact TS_meet 0 ⟨[(0, []), (1, []), (2, [])], []⟩ h (by kernel_rfl) (by kernel_rfl)
    · refine TS_know 10 (b := false) hb11 (by kernel_rfl) (by kernel_rfl) ?_
      refine TS_know 11 (b := false) hb11 (by kernel_rfl) (by kernel_rfl) ?_
      refine TS_go 4 ?_
      replace h := condO h
      rcases h with ⟨hb12, h⟩ | ⟨hb12, h⟩
      · refine TS_know 13 (b := true) hb12 (by kernel_rfl) (by kernel_rfl) ?_
        refine TS_know 14 (b := true) hb12 (by kernel_rfl) (by kernel_rfl) ?_
        refine TS_T (by kernel_rfl) rfl ?_
        refine TS_go 3 ?_
        exact TS_meet 0 ⟨[(0, []), (1, []), (2, [])], []⟩ h (by kernel_rfl) (by kernel_rfl)
      · refine TS_know 13 (b := false) hb12 (by kernel_rfl) (by kernel_rfl) ?_
        refine TS_know 14 (b := false) hb12 (by kernel_rfl) (by kernel_rfl) ?_
        refine TS_F (by kernel_rfl) rfl ?_
        refine TS_go 1 ?_
        exact TS_meet a2 ⟨[(0, []), (1, []), (2, [])], []⟩ h (by kernel_rfl) (by kernel_rfl)
/-- (multihop/messages.state).element -/
noncomputable def F_messages_state_element_H00 (a0 : S_messages_state) (a1 : Int) (a2 : List Int) : Option (S_messages_state) :=
  (appO 1 a0.elements (Cut.app .whole ([a1, IntKind.wrap .u8 (List.length a2 : Int)] : List Int))).bind fun l1 =>
  (appO 1 l1 (Cut.app .whole a2)).bind fun l2 =>
  some ((S_messages_state.mk l2 a0.router a0.dst))
set_option maxRecDepth 100000 in
set_option maxHeartbeats 40000000 in
theorem ok_messages_state_element_H00 (a0 : S_messages_state) (a1 : Int) (a2 : List Int) (r : S_messages_state) (h : F_messages_state_element_H00 a0 a1 a2 = some r) : ConG Try.prog 60 [.agg [.slc 1 1000003 (List.length a0.elements) (List.map (ecI .u8) a0.elements), .lit (.int .u64 (a0.router)), .lit (.int .u8 ((a0.dst.getD 0 0))), .lit (.int .u8 ((a0.dst.getD 1 0))), .lit (.int .u8 ((a0.dst.getD 2 0))), .lit (.int .u8 ((a0.dst.getD 3 0))), .lit (.int .u8 ((a0.dst.getD 4 0))), .lit (.int .u8 ((a0.dst.getD 5 0))), .lit (.int .u8 ((a0.dst.getD 6 0))), .lit (.int .u8 ((a0.dst.getD 7 0))), .lit (.int .u8 ((a0.dst.getD 8 0))), .lit (.int .u8 ((a0.dst.getD 9 0))), .lit (.int .u8 ((a0.dst.getD 10 0))), .lit (.int .u8 ((a0.dst.getD 11 0))), .lit (.int .u8 ((a0.dst.getD 12 0))), .lit (.int .u8 ((a0.dst.getD 13 0))), .lit (.int .u8 ((a0.dst.getD 14 0))), .lit (.int .u8 ((a0.dst.getD 15 0)))], .c (.lit (.int .u8 (a1))), .c (eS 1 (ecI .u8) (a2))] 5 1 (List.length a0.elements) (.agg [.slc 1 1000003 (List.length r.elements) (List.map (ecI .u8) r.elements), .lit (.int .u64 (r.router)), .lit (.int .u8 ((r.dst.getD 0 0))), .lit (.int .u8 ((r.dst.getD 1 0))), .lit (.int .u8 ((r.dst.getD 2 0))), .lit (.int .u8 ((r.dst.getD 3 0))), .lit (.int .u8 ((r.dst.getD 4 0))), .lit (.int .u8 ((r.dst.getD 5 0))), .lit (.int .u8 ((r.dst.getD 6 0))), .lit (.int .u8 ((r.dst.getD 7 0))), .lit (.int .u8 ((r.dst.getD 8 0))), .lit (.int .u8 ((r.dst.getD 9 0))), .lit (.int .u8 ((r.dst.getD 10 0))), .lit (.int .u8 ((r.dst.getD 11 0))), .lit (.int .u8 ((r.dst.getD 12 0))), .lit (.int .u8 ((r.dst.getD 13 0))), .lit (.int .u8 ((r.dst.getD 14 0))), .lit (.int .u8 ((r.dst.getD 15 0)))]) (List.length r.elements) := by
  unfold F_messages_state_element_H00 at h
  refine con_ofGA [] 22 0 0 _ Try.func60 rfl rfl (by kernel_rfl) rfl rfl (fun K => ?_)
  refine TS_go 13 ?_
  refine TS_litNT 13 5 1 (ecI .u8) [] ([a1, IntKind.wrap .u8 (List.length a2 : Int)] : List Int) (by kernel_rfl) (by kernel_rfl) ?_
  replace h := bindO h
  obtain ⟨l1, hl1, h⟩ := h
  refine TS_appT (d := 1000001) (e := 5) (sz := 1) (N := List.length a0.elements) (ecI .u8) (fun _ => by kernel_rfl) (l1 := a0.elements) (l2 := ([a1, IntKind.wrap .u8 (List.length a2 : Int)] : List Int)) (c := .whole) hl1 (by kernel_rfl) (by kernel_rfl) ?_
  refine TS_go 8 ?_
  replace h := bindO h
  obtain ⟨l2, hl2, h⟩ := h
  refine TS_appT (d := 1000001) (e := 5) (sz := 1) (N := List.length l1) (ecI .u8) (fun _ => by kernel_rfl) (l1 := l1) (l2 := a2) (c := .whole) hl2 (by kernel_rfl) (by kernel_rfl) ?_
  refine TS_go 9 ?_
  have ret := Option.some.inj h
  subst ret
  exact TS_retG (sz1 := 1) (xs1 := List.map (ecI .u8) a0.elements) (by kernel_rfl) (by kernel_rfl) (by kernel_rfl) (by kernel_rfl)

/-- multihop/messages.size -/
noncomputable def F_messages_size (a0 : Int) : Option (Int) :=
  some (iquo .i64 (IntKind.wrap .i64 (a0 + 7)) 8)
set_option maxRecDepth 100000 in
set_option maxHeartbeats 40000000 in
theorem ok_messages_size (a0 : Int) (r : Int) (h : F_messages_size a0 = some r) : Con Try.prog 70 [.c (.lit (.int .i64 (a0)))] [] (.c (.lit (.int .i64 (r)))) [] := by
  unfold F_messages_size at h
  refine con_of [] [] 6 Try.func70 rfl rfl (by kernel_rfl) (fun K => ?_)
  refine TS_go 12 ?_
  have ret := Option.some.inj h
  subst ret
  exact TS_ret (by kernel_rfl) (by kernel_rfl) (by kernel_rfl)

/-- multihop/messages.prefixBytes -/
noncomputable def F_messages_prefixBytes (a0 : S_Prefix) : Option ((List Int)) :=
  (F_messages_size a0.Bits).bind fun v1 =>
  (subO (arrL 16 a0.IP) 0 v1).bind fun l2 =>
  some (l2)
set_option maxRecDepth 100000 in
set_option maxHeartbeats 40000000 in
theorem ok_messages_prefixBytes (a0 : S_Prefix) (r : (List Int)) (h : F_messages_prefixBytes a0 = some r) : Con Try.prog 63 [.agg (S_Prefix.cs a0)] [] (.c (eS 1 (ecI .u8) (r))) [] := by
  unfold F_messages_prefixBytes at h
  refine con_of [[2]] [] 8 Try.func63 rfl rfl (by kernel_rfl) (fun K => ?_)
  refine TS_go 2 ?_
  refine TS_boxF (cs := [.lit (.int .u8 ((a0.IP.getD 0 0))), .lit (.int .u8 ((a0.IP.getD 1 0))), .lit (.int .u8 ((a0.IP.getD 2 0))), .lit (.int .u8 ((a0.IP.getD 3 0))), .lit (.int .u8 ((a0.IP.getD 4 0))), .lit (.int .u8 ((a0.IP.getD 5 0))), .lit (.int .u8 ((a0.IP.getD 6 0))), .lit (.int .u8 ((a0.IP.getD 7 0))), .lit (.int .u8 ((a0.IP.getD 8 0))), .lit (.int .u8 ((a0.IP.getD 9 0))), .lit (.int .u8 ((a0.IP.getD 10 0))), .lit (.int .u8 ((a0.IP.getD 11 0))), .lit (.int .u8 ((a0.IP.getD 12 0))), .lit (.int .u8 ((a0.IP.getD 13 0))), .lit (.int .u8 ((a0.IP.getD 14 0))), .lit (.int .u8 ((a0.IP.getD 15 0))), .lit (.int .i64 (a0.Bits))]) (by kernel_rfl) (by kernel_rfl) ?_
  refine TS_go 7 ?_
  replace h := bindO h
  obtain ⟨v1, hv1, h⟩ := h
  refine TS_call [] (ok_messages_size a0.Bits v1 hv1) (by kernel_rfl) (by kernel_rfl) ?_
  replace h := bindO h
  obtain ⟨_l2, hl2, h⟩ := h
  refine TS_slF (k := .u8) (a := 0) (b := v1) 16 a0.IP (by decide) hl2 (by kernel_rfl) (by kernel_rfl) ?_
  refine TS_go 3 ?_
  have ret := Option.some.inj h
  subst ret
  exact TS_ret (by kernel_rfl) (by kernel_rfl) (by kernel_rfl)

/-- (multihop/messages.state).update -/
noncomputable def F_messages_state_update_H00_l2 (v2 : (List Int)) (v1 : S_messages_state) (s3 : Int) : Option ((Int) ⊕ (Int)) :=
  bif (decide (s3 < (List.length v2 : Int))) then
    (idx v2 s3).bind fun e7 =>
    bif decide ((0 : Int) ≤ s3 ∧ s3 < (16 : Int)) then
      bif (e7 == (List.getD v1.dst (Int.toNat s3) 0)) then
        some (Sum.inl (IntKind.wrap .i64 (s3 + 1)))
      else
        some (Sum.inr s3)
    else none
  else
    some (Sum.inr s3)
noncomputable def F_messages_state_update_H00_j1 (a1 : S_Notice) (v1 : S_messages_state) : Option (S_messages_state) :=
  (F_messages_prefixBytes a1.To.Dst).bind fun v2 =>
  (loopO (F_messages_state_update_H00_l2 v2 v1) 0).bind fun b4 =>
  (F_octets_Append ([IntKind.wrap .u8 b4, IntKind.wrap .u8 a1.To.Dst.Bits, IntKind.wrap .u8 a1.To.Src.Bits] : List Int) (IntKind.wrap .u64 a1.Seq) 2).bind fun v11 =>
  (F_octets_Append v11 (IntKind.wrap .u64 a1.Metric) 2).bind fun v12 =>
  (subO v2 b4 (List.length v2 : Int)).bind fun l13 =>
  (appO 1 v12 (Cut.app .whole l13)).bind fun l14 =>
  (F_messages_prefixBytes a1.To.Src).bind fun v15 =>
  (appO 1 l14 (Cut.app .whole v15)).bind fun l16 =>
  (F_messages_state_element_H00 (S_messages_state.mk v1.elements v1.router a1.To.Dst.IP) 3 l16).bind fun v17 =>
  some (v17)
noncomputable def F_messages_state_update_H00 (a0 : S_messages_state) (a1 : S_Notice) : Option (S_messages_state) :=
  bif (a1.To.Router != a0.router) then
    (F_octets_Append ([] : List Int) a1.To.Router 8).bind fun v19 =>
    (F_messages_state_element_H00 a0 6 v19).bind fun v20 =>
    (F_messages_state_update_H00_j1 a1) (S_messages_state.mk v20.elements a1.To.Router v20.dst)
  else
    (F_messages_state_update_H00_j1 a1) a0
set_option maxRecDepth 100000 in
set_option maxHeartbeats 40000000 in
theorem ok_messages_state_update_H00 (a0 : S_messages_state) (a1 : S_Notice) (r : S_messages_state) (h : F_messages_state_update_H00 a0 a1 = some r) : ConG Try.prog 62 [.agg [.slc 1 1000003 (List.length a0.elements) (List.map (ecI .u8) a0.elements), .lit (.int .u64 (a0.router)), .lit (.int .u8 ((a0.dst.getD 0 0))), .lit (.int .u8 ((a0.dst.getD 1 0))), .lit (.int .u8 ((a0.dst.getD 2 0))), .lit (.int .u8 ((a0.dst.getD 3 0))), .lit (.int .u8 ((a0.dst.getD 4 0))), .lit (.int .u8 ((a0.dst.getD 5 0))), .lit (.int .u8 ((a0.dst.getD 6 0))), .lit (.int .u8 ((a0.dst.getD 7 0))), .lit (.int .u8 ((a0.dst.getD 8 0))), .lit (.int .u8 ((a0.dst.getD 9 0))), .lit (.int .u8 ((a0.dst.getD 10 0))), .lit (.int .u8 ((a0.dst.getD 11 0))), .lit (.int .u8 ((a0.dst.getD 12 0))), .lit (.int .u8 ((a0.dst.getD 13 0))), .lit (.int .u8 ((a0.dst.getD 14 0))), .lit (.int .u8 ((a0.dst.getD 15 0)))], .agg (S_Notice.cs a1)] 5 1 (List.length a0.elements) (.agg [.slc 1 1000003 (List.length r.elements) (List.map (ecI .u8) r.elements), .lit (.int .u64 (r.router)), .lit (.int .u8 ((r.dst.getD 0 0))), .lit (.int .u8 ((r.dst.getD 1 0))), .lit (.int .u8 ((r.dst.getD 2 0))), .lit (.int .u8 ((r.dst.getD 3 0))), .lit (.int .u8 ((r.dst.getD 4 0))), .lit (.int .u8 ((r.dst.getD 5 0))), .lit (.int .u8 ((r.dst.getD 6 0))), .lit (.int .u8 ((r.dst.getD 7 0))), .lit (.int .u8 ((r.dst.getD 8 0))), .lit (.int .u8 ((r.dst.getD 9 0))), .lit (.int .u8 ((r.dst.getD 10 0))), .lit (.int .u8 ((r.dst.getD 11 0))), .lit (.int .u8 ((r.dst.getD 12 0))), .lit (.int .u8 ((r.dst.getD 13 0))), .lit (.int .u8 ((r.dst.getD 14 0))), .lit (.int .u8 ((r.dst.getD 15 0)))]) (List.length r.elements) := by
  unfold F_messages_state_update_H00 at h
  refine con_ofGA [] 87 0 0 _ Try.func62 rfl rfl (by kernel_rfl) rfl rfl (fun K => ?_)
  refine TS_go 6 ?_
  refine TS_cut ⟨[(2000000, []), (2, []), (3, []), (4, [])], [(1000001, (1000001, [])), (2, (2, [])), (3, (3, [])), (4, (4, []))]⟩ (.mk [.code (codeAt [1] (bodyOf Try.f62))] .normal ⟨[(2000000, .c (.slc 1 1000003 (List.length a0.elements) (List.map (ecI .u8) a0.elements))), (2, .c (.box 2 0)), (3, .c (.box 3 0)), (4, .c (.box 4 0))], [(1000001, .spare 5 1 (List.length a0.elements)), (2, .box [.slc 1 1000003 (List.length a0.elements) (List.map (ecI .u8) a0.elements), .lit (.int .u64 (a0.router)), .lit (.int .u8 ((a0.dst.getD 0 0))), .lit (.int .u8 ((a0.dst.getD 1 0))), .lit (.int .u8 ((a0.dst.getD 2 0))), .lit (.int .u8 ((a0.dst.getD 3 0))), .lit (.int .u8 ((a0.dst.getD 4 0))), .lit (.int .u8 ((a0.dst.getD 5 0))), .lit (.int .u8 ((a0.dst.getD 6 0))), .lit (.int .u8 ((a0.dst.getD 7 0))), .lit (.int .u8 ((a0.dst.getD 8 0))), .lit (.int .u8 ((a0.dst.getD 9 0))), .lit (.int .u8 ((a0.dst.getD 10 0))), .lit (.int .u8 ((a0.dst.getD 11 0))), .lit (.int .u8 ((a0.dst.getD 12 0))), .lit (.int .u8 ((a0.dst.getD 13 0))), .lit (.int .u8 ((a0.dst.getD 14 0))), .lit (.int .u8 ((a0.dst.getD 15 0)))]), (3, .box [.lit (.int .i64 (a1.Kind)), .lit (.int .u16 (a1.Seq)), .lit (.int .i64 (a1.Metric)), .lit (.int .u64 (a1.Neighbour)), .lit (.int .u8 ((a1.To.Dst.IP.getD 0 0))), .lit (.int .u8 ((a1.To.Dst.IP.getD 1 0))), .lit (.int .u8 ((a1.To.Dst.IP.getD 2 0))), .lit (.int .u8 ((a1.To.Dst.IP.getD 3 0))), .lit (.int .u8 ((a1.To.Dst.IP.getD 4 0))), .lit (.int .u8 ((a1.To.Dst.IP.getD 5 0))), .lit (.int .u8 ((a1.To.Dst.IP.getD 6 0))), .lit (.int .u8 ((a1.To.Dst.IP.getD 7 0))), .lit (.int .u8 ((a1.To.Dst.IP.getD 8 0))), .lit (.int .u8 ((a1.To.Dst.IP.getD 9 0))), .lit (.int .u8 ((a1.To.Dst.IP.getD 10 0))), .lit (.int .u8 ((a1.To.Dst.IP.getD 11 0))), .lit (.int .u8 ((a1.To.Dst.IP.getD 12 0))), .lit (.int .u8 ((a1.To.Dst.IP.getD 13 0))), .lit (.int .u8 ((a1.To.Dst.IP.getD 14 0))), .lit (.int .u8 ((a1.To.Dst.IP.getD 15 0))), .lit (.int .i64 (a1.To.Dst.Bits)), .lit (.int .u8 ((a1.To.Src.IP.getD 0 0))), .lit (.int .u8 ((a1.To.Src.IP.getD 1 0))), .lit (.int .u8 ((a1.To.Src.IP.getD 2 0))), .lit (.int .u8 ((a1.To.Src.IP.getD 3 0))), .lit (.int .u8 ((a1.To.Src.IP.getD 4 0))), .lit (.int .u8 ((a1.To.Src.IP.getD 5 0))), .lit (.int .u8 ((a1.To.Src.IP.getD 6 0))), .lit (.int .u8 ((a1.To.Src.IP.getD 7 0))), .lit (.int .u8 ((a1.To.Src.IP.getD 8 0))), .lit (.int .u8 ((a1.To.Src.IP.getD 9 0))), .lit (.int .u8 ((a1.To.Src.IP.getD 10 0))), .lit (.int .u8 ((a1.To.Src.IP.getD 11 0))), .lit (.int .u8 ((a1.To.Src.IP.getD 12 0))), .lit (.int .u8 ((a1.To.Src.IP.getD 13 0))), .lit (.int .u8 ((a1.To.Src.IP.getD 14 0))), .lit (.int .u8 ((a1.To.Src.IP.getD 15 0))), .lit (.int .i64 (a1.To.Src.Bits)), .lit (.int .u64 (a1.To.Router)), .lit (.int .i64 (a1.Hops))]), (4, .box [.lit (.slice none 0 0), .lit (.int .u64 (0)), .lit (.int .u8 (0)), .lit (.int .u8 (0)), .lit (.int .u8 (0)), .lit (.int .u8 (0)), .lit (.int .u8 (0)), .lit (.int .u8 (0)), .lit (.int .u8 (0)), .lit (.int .u8 (0)), .lit (.int .u8 (0)), .lit (.int .u8 (0)), .lit (.int .u8 (0)), .lit (.int .u8 (0)), .lit (.int .u8 (0)), .lit (.int .u8 (0)), .lit (.int .u8 (0)), .lit (.int .u8 (0))])]⟩) (by kernel_rfl) (by kernel_rfl) ?_
  refine TS_joinB ⟨[(2, []), (3, []), (4, []), (2000000, [])], [(2, (2, [])), (3, (3, [])), (4, (4, [])), (1000001, (1000001, []))]⟩ (fun (v1 : S_messages_state) => []) (fun (v1 : S_messages_state) => [(2, .box [.slc 1 1000003 (List.length v1.elements) (List.map (ecI .u8) v1.elements), .lit (.int .u64 (v1.router)), .lit (.int .u8 ((v1.dst.getD 0 0))), .lit (.int .u8 ((v1.dst.getD 1 0))), .lit (.int .u8 ((v1.dst.getD 2 0))), .lit (.int .u8 ((v1.dst.getD 3 0))), .lit (.int .u8 ((v1.dst.getD 4 0))), .lit (.int .u8 ((v1.dst.getD 5 0))), .lit (.int .u8 ((v1.dst.getD 6 0))), .lit (.int .u8 ((v1.dst.getD 7 0))), .lit (.int .u8 ((v1.dst.getD 8 0))), .lit (.int .u8 ((v1.dst.getD 9 0))), .lit (.int .u8 ((v1.dst.getD 10 0))), .lit (.int .u8 ((v1.dst.getD 11 0))), .lit (.int .u8 ((v1.dst.getD 12 0))), .lit (.int .u8 ((v1.dst.getD 13 0))), .lit (.int .u8 ((v1.dst.getD 14 0))), .lit (.int .u8 ((v1.dst.getD 15 0)))]), (1000001, .spare 5 1 (List.length v1.elements))]) (F_messages_state_update_H00_j1 a1) r ?_ ?_
  · clear h
    intro v1 h
    unfold F_messages_state_update_H00_j1 at h
    refine TS_go 5 ?_
    replace h := bindO h
    obtain ⟨v2, hv2, h⟩ := h
    refine TS_call [] (ok_messages_prefixBytes a1.To.Dst v2 hv2) (by kernel_rfl) (by kernel_rfl) ?_
    refine TS_go 8 ?_
    refine TS_cut ⟨[(2, []), (3, []), (4, []), (2000000, []), (5, []), (6, [])], [(2, (2, [])), (3, (3, [])), (4, (4, [])), (1000001, (1000001, []))]⟩ (.mk [.code (codeAt [1, 1, 1, 1, 0, 0] (bodyOf Try.f62)), .blk 0, .code (codeAt [1, 1, 1, 1, 1] (bodyOf Try.f62))] .normal ⟨[(2, .c (.box 2 0)), (3, .c (.box 3 0)), (4, .c (.box 4 0)), (2000000, .c (.slc 1 1000003 (List.length a0.elements) (List.map (ecI .u8) a0.elements))), (5, .c (.slc 1 0 (List.length v2) (List.map (ecI .u8) v2))), (6, .c (.lit (.int .i64 (0))))], [(2, .box [.slc 1 1000003 (List.length v1.elements) (List.map (ecI .u8) v1.elements), .lit (.int .u64 (v1.router)), .lit (.int .u8 ((v1.dst.getD 0 0))), .lit (.int .u8 ((v1.dst.getD 1 0))), .lit (.int .u8 ((v1.dst.getD 2 0))), .lit (.int .u8 ((v1.dst.getD 3 0))), .lit (.int .u8 ((v1.dst.getD 4 0))), .lit (.int .u8 ((v1.dst.getD 5 0))), .lit (.int .u8 ((v1.dst.getD 6 0))), .lit (.int .u8 ((v1.dst.getD 7 0))), .lit (.int .u8 ((v1.dst.getD 8 0))), .lit (.int .u8 ((v1.dst.getD 9 0))), .lit (.int .u8 ((v1.dst.getD 10 0))), .lit (.int .u8 ((v1.dst.getD 11 0))), .lit (.int .u8 ((v1.dst.getD 12 0))), .lit (.int .u8 ((v1.dst.getD 13 0))), .lit (.int .u8 ((v1.dst.getD 14 0))), .lit (.int .u8 ((v1.dst.getD 15 0)))]), (3, .box [.lit (.int .i64 (a1.Kind)), .lit (.int .u16 (a1.Seq)), .lit (.int .i64 (a1.Metric)), .lit (.int .u64 (a1.Neighbour)), .lit (.int .u8 ((a1.To.Dst.IP.getD 0 0))), .lit (.int .u8 ((a1.To.Dst.IP.getD 1 0))), .lit (.int .u8 ((a1.To.Dst.IP.getD 2 0))), .lit (.int .u8 ((a1.To.Dst.IP.getD 3 0))), .lit (.int .u8 ((a1.To.Dst.IP.getD 4 0))), .lit (.int .u8 ((a1.To.Dst.IP.getD 5 0))), .lit (.int .u8 ((a1.To.Dst.IP.getD 6 0))), .lit (.int .u8 ((a1.To.Dst.IP.getD 7 0))), .lit (.int .u8 ((a1.To.Dst.IP.getD 8 0))), .lit (.int .u8 ((a1.To.Dst.IP.getD 9 0))), .lit (.int .u8 ((a1.To.Dst.IP.getD 10 0))), .lit (.int .u8 ((a1.To.Dst.IP.getD 11 0))), .lit (.int .u8 ((a1.To.Dst.IP.getD 12 0))), .lit (.int .u8 ((a1.To.Dst.IP.getD 13 0))), .lit (.int .u8 ((a1.To.Dst.IP.getD 14 0))), .lit (.int .u8 ((a1.To.Dst.IP.getD 15 0))), .lit (.int .i64 (a1.To.Dst.Bits)), .lit (.int .u8 ((a1.To.Src.IP.getD 0 0))), .lit (.int .u8 ((a1.To.Src.IP.getD 1 0))), .lit (.int .u8 ((a1.To.Src.IP.getD 2 0))), .lit (.int .u8 ((a1.To.Src.IP.getD 3 0))), .lit (.int .u8 ((a1.To.Src.IP.getD 4 0))), .lit (.int .u8 ((a1.To.Src.IP.getD 5 0))), .lit (.int .u8 ((a1.To.Src.IP.getD 6 0))), .lit (.int .u8 ((a1.To.Src.IP.getD 7 0))), .lit (.int .u8 ((a1.To.Src.IP.getD 8 0))), .lit (.int .u8 ((a1.To.Src.IP.getD 9 0))), .lit (.int .u8 ((a1.To.Src.IP.getD 10 0))), .lit (.int .u8 ((a1.To.Src.IP.getD 11 0))), .lit (.int .u8 ((a1.To.Src.IP.getD 12 0))), .lit (.int .u8 ((a1.To.Src.IP.getD 13 0))), .lit (.int .u8 ((a1.To.Src.IP.getD 14 0))), .lit (.int .u8 ((a1.To.Src.IP.getD 15 0))), .lit (.int .i64 (a1.To.Src.Bits)), .lit (.int .u64 (a1.To.Router)), .lit (.int .i64 (a1.Hops))]), (4, .box [.lit (.slice none 0 0), .lit (.int .u64 (0)), .lit (.int .u8 (0)), .lit (.int .u8 (0)), .lit (.int .u8 (0)), .lit (.int .u8 (0)), .lit (.int .u8 (0)), .lit (.int .u8 (0)), .lit (.int .u8 (0)), .lit (.int .u8 (0)), .lit (.int .u8 (0)), .lit (.int .u8 (0)), .lit (.int .u8 (0)), .lit (.int .u8 (0)), .lit (.int .u8 (0)), .lit (.int .u8 (0)), .lit (.int .u8 (0)), .lit (.int .u8 (0))]), (1000001, .spare 5 1 (List.length v1.elements))]⟩) (by kernel_rfl) (by kernel_rfl) ?_
    replace h := bindO h
    obtain ⟨y5, hl2, hK2⟩ := h
    refine TS_loopB (F_messages_state_update_H00_l2 v2 v1) ⟨[(2, []), (3, []), (4, []), (5, []), (6, []), (2000000, [])], [(2, (2, [])), (3, (3, [])), (4, (4, [])), (1000001, (1000001, []))]⟩ (fun (s3 : Int) => [(6, .c (.lit (.int .i64 (s3))))]) (fun (s3 : Int) => []) 0 y5 (.exit 0) (fun (b : Int) => b) ⟨[(2, []), (3, []), (4, []), (5, []), (6, []), (2000000, [])], [(2, (2, [])), (3, (3, [])), (4, (4, [])), (1000001, (1000001, []))]⟩ (fun (b4 : Int) => [(6, .c (.lit (.int .i64 (b4))))]) (fun (b4 : Int) => []) hl2 (by kernel_rfl) (by kernel_rfl) ?_ ?_
    · intro s3 x h hy2
      unfold F_messages_state_update_H00_l2 at h
      refine TS_go 2 ?_
      refine TS_draw (by kernel_rfl) ?_
      refine TD_go 4 ?_
      replace h := condO h
      rcases h with ⟨hb6, h⟩ | ⟨hb6, h⟩
      · refine TD_know 32 (b := true) hb6 trivial (by kernel_rfl) (by kernel_rfl) ?_
        refine TD_go 2 ?_
        replace h := bindO h
        obtain ⟨_e7, he7, h⟩ := h
        refine TD_idx (ecI .u8) he7 (by kernel_rfl) (by kernel_rfl) ?_
        refine TD_go 3 ?_
        replace h := chkO h
        obtain ⟨hc8, h⟩ := h
        refine TD_idxA 2 2 16 (i := s3) hc8 (by kernel_rfl) (by kernel_rfl) ?_
        refine TD_ldA .u8 2 16 (i := s3) v1.dst hc8 (by kernel_rfl) (by kernel_rfl) ?_
        refine TD_go 2 ?_
        refine TD_end (by kernel_rfl) ?_
        replace h := condO h
        rcases h with ⟨hb9, h⟩ | ⟨hb9, h⟩
        · refine TS_know 31 (b := true) hb6 (by kernel_rfl) (by kernel_rfl) ?_
          refine TS_know 41 (b := true) hb9 (by kernel_rfl) (by kernel_rfl) ?_
          refine TS_know 42 (b := true) hb9 (by kernel_rfl) (by kernel_rfl) ?_
          refine TS_T (by kernel_rfl) rfl ?_
          refine TS_go 8 ?_
          have ret := Option.some.inj h
          subst ret
          exact TS_againB _ ⟨[(2, []), (3, []), (4, []), (5, []), (6, []), (2000000, [])], [(2, (2, [])), (3, (3, [])), (4, (4, [])), (1000001, (1000001, []))]⟩ rfl (by kernel_rfl) (by kernel_rfl)
        · refine TS_know 31 (b := true) hb6 (by kernel_rfl) (by kernel_rfl) ?_
          refine TS_know 41 (b := false) hb9 (by kernel_rfl) (by kernel_rfl) ?_
          refine TS_know 42 (b := false) hb9 (by kernel_rfl) (by kernel_rfl) ?_
          refine TS_F (by kernel_rfl) rfl ?_
          refine TS_go 2 ?_
          have ret := Option.some.inj h
          subst ret
          exact TS_brkB s3 ⟨[(2, []), (3, []), (4, []), (5, []), (6, []), (2000000, [])], [(2, (2, [])), (3, (3, [])), (4, (4, [])), (1000001, (1000001, []))]⟩ rfl (by kernel_rfl) (by kernel_rfl) (by kernel_rfl)
      · refine TD_know 32 (b := false) hb6 trivial (by kernel_rfl) (by kernel_rfl) ?_
        refine TD_go 10 ?_
        refine TD_end (by kernel_rfl) ?_
        refine TS_F (by kernel_rfl) rfl ?_
        refine TS_go 2 ?_
        have ret := Option.some.inj h
        subst ret
        exact TS_brkB s3 ⟨[(2, []), (3, []), (4, []), (5, []), (6, []), (2000000, [])], [(2, (2, [])), (3, (3, [])), (4, (4, [])), (1000001, (1000001, []))]⟩ rfl (by kernel_rfl) (by kernel_rfl) (by kernel_rfl)
    · intro b4 hb
      subst y5
      have h := hK2
      refine TS_go 15 ?_
      refine TS_litNT 57 5 1 (ecI .u8) [] ([IntKind.wrap .u8 b4, IntKind.wrap .u8 a1.To.Dst.Bits, IntKind.wrap .u8 a1.To.Src.Bits] : List Int) (by kernel_rfl) (by kernel_rfl) ?_
      refine TS_go 8 ?_
      replace h := bindO h
      obtain ⟨v11, hv11, h⟩ := h
      refine TS_con [[2]] [(62, 900000)] none (okT_octets_Append ([IntKind.wrap .u8 b4, IntKind.wrap .u8 a1.To.Dst.Bits, IntKind.wrap .u8 a1.To.Src.Bits] : List Int) (IntKind.wrap .u64 a1.Seq) 2 v11 hv11) (by kernel_rfl) (by kernel_rfl) (by kernel_rfl) ?_
      refine TS_go 8 ?_
      replace h := bindO h
      obtain ⟨v12, hv12, h⟩ := h
      refine TS_con [[2]] [(67, 900000)] none (okT_octets_Append v11 (IntKind.wrap .u64 a1.Metric) 2 v12 hv12) (by kernel_rfl) (by kernel_rfl) (by kernel_rfl) ?_
      refine TS_go 7 ?_
      replace h := bindO h
      obtain ⟨l13, hl13, h⟩ := h
      refine TS_sub (ecI .u8) 1 hl13 (by kernel_rfl) (by kernel_rfl) ?_
      replace h := bindO h
      obtain ⟨l14, hl14, h⟩ := h
      refine TS_appT (d := 67) (e := 5) (sz := 1) (N := List.length v12) (ecI .u8) (fun _ => by kernel_rfl) (l1 := v12) (l2 := l13) (c := .whole) hl14 (by kernel_rfl) (by kernel_rfl) ?_
      refine TS_go 8 ?_
      replace h := bindO h
      obtain ⟨v15, hv15, h⟩ := h
      refine TS_call [] (ok_messages_prefixBytes a1.To.Src v15 hv15) (by kernel_rfl) (by kernel_rfl) ?_
      replace h := bindO h
      obtain ⟨l16, hl16, h⟩ := h
      refine TS_appT (d := 67) (e := 5) (sz := 1) (N := List.length l14) (ecI .u8) (fun _ => by kernel_rfl) (l1 := l14) (l2 := v15) (c := .whole) hl16 (by kernel_rfl) (by kernel_rfl) ?_
      refine TS_go 15 ?_
      replace h := bindO h
      obtain ⟨v17, hv17, h⟩ := h
      refine TS_conG 1000001 [[], [], [2]] (ok_messages_state_element_H00 (S_messages_state.mk v1.elements v1.router a1.To.Dst.IP) 3 l16 v17 hv17) (by kernel_rfl) (by kernel_rfl) (by kernel_rfl) ?_
      refine TS_go 3 ?_
      have ret := Option.some.inj h
      subst ret
      exact TS_retG (sz1 := 1) (xs1 := List.map (ecI .u8) a0.elements) (by kernel_rfl) (by kernel_rfl) (by kernel_rfl) (by kernel_rfl)
  · refine TS_go 9 ?_
    replace h := condO h
    rcases h with ⟨hb18, h⟩ | ⟨hb18, h⟩
    · refine TS_know 13 (b := true) hb18 (by kernel_rfl) (by kernel_rfl) ?_
      refine TS_T (by kernel_rfl) rfl ?_
      refine TS_go 1 ?_
      refine TS_draw (by kernel_rfl) ?_
      refine TD_go 4 ?_
      replace h := bindO h
      obtain ⟨v19, hv19, h⟩ := h
      refine TD_conX (d := 18) (e := 900000) [[2]] (okT_octets_Append ([] : List Int) a1.To.Router 8 v19 hv19) (by kernel_rfl) (by kernel_rfl) ?_
      replace h := bindO h
      obtain ⟨v20, hv20, h⟩ := h
      refine TD_conG 1000001 [[], [], [2]] (ok_messages_state_element_H00 a0 6 v19 v20 hv20) (by kernel_rfl) (by kernel_rfl) (by kernel_rfl) ?_
      refine TD_go 1 ?_
      refine TD_end (by kernel_rfl) ?_
      refine TS_go 7 ?_
      exact TS_meet (S_messages_state.mk v20.elements a1.To.Router v20.dst) ⟨[(2, []), (3, []), (4, []), (2000000, [])], [(2, (2, [])), (3, (3, [])), (4, (4, [])), (1000001, (1000001, []))]⟩ h (by kernel_rfl) (by kernel_rfl)
    · refine TS_know 13 (b := false) hb18 (by kernel_rfl) (by kernel_rfl) ?_
      refine TS_F (by kernel_rfl) rfl ?_
      refine TS_go 1 ?_
      exact TS_meet a0 ⟨[(2, []), (3, []), (4, []), (2000000, [])], [(2, (2, [])), (3, (3, [])), (4, (4, [])), (1000001, (1000001, []))]⟩ h (by kernel_rfl) (by kernel_rfl)

/-- (multihop/messages.state).notice -/
noncomputable def F_messages_state_notice_H00_j1 (a1 : S_Notice) (a0 : S_messages_state) (v10 : (List Int) × Int) : Option (S_messages_state) :=
  (F_messages_prefixBytes a1.To.Dst).bind fun v11 =>
  (appO 1 v10.1 (Cut.app .whole v11)).bind fun l12 =>
  (F_messages_prefixBytes a1.To.Src).bind fun v13 =>
  (appO 1 l12 (Cut.app .whole v13)).bind fun l14 =>
  (F_messages_state_element_H00 a0 v10.2 l14).bind fun v15 =>
  some (v15)
noncomputable def F_messages_state_notice_H00 (a0 : S_messages_state) (a1 : S_Notice) : Option (S_messages_state) :=
  bif (a1.Kind == 1) then
    (F_octets_Append ([] : List Int) (IntKind.wrap .u64 a1.Seq) 2).bind fun v2 =>
    (F_messages_state_element_H00 a0 1 v2).bind fun v3 =>
    some (v3)
  else
    bif (a1.Kind == 2) then
      (F_octets_Append ([] : List Int) a1.Neighbour 8).bind fun v5 =>
      (F_octets_Append v5 (IntKind.wrap .u64 a1.Metric) 2).bind fun v6 =>
      (F_messages_state_element_H00 a0 2 v6).bind fun v7 =>
      some (v7)
    else
      bif (a1.Kind == 3) then
        (F_messages_state_update_H00 a0 a1).bind fun v9 =>
        some (v9)
      else
        bif (a1.Kind == 5) then
          (F_octets_Append ([IntKind.wrap .u8 a1.To.Dst.Bits, IntKind.wrap .u8 a1.To.Src.Bits] : List Int) (IntKind.wrap .u64 a1.Seq) 2).bind fun v17 =>
          (appO 1 v17 (Cut.app .whole ([IntKind.wrap .u8 a1.Hops] : List Int))).bind fun l18 =>
          (F_octets_Append l18 a1.To.Router 8).bind fun v19 =>
          (F_messages_state_notice_H00_j1 a1 a0) (v19, 5)
        else
          (F_messages_state_notice_H00_j1 a1 a0) (([IntKind.wrap .u8 a1.To.Dst.Bits, IntKind.wrap .u8 a1.To.Src.Bits] : List Int), 4)
set_option maxRecDepth 100000 in
set_option maxHeartbeats 40000000 in
theorem ok_messages_state_notice_H00 (a0 : S_messages_state) (a1 : S_Notice) (r : S_messages_state) (h : F_messages_state_notice_H00 a0 a1 = some r) : ConG Try.prog 46 [.agg [.slc 1 1000003 (List.length a0.elements) (List.map (ecI .u8) a0.elements), .lit (.int .u64 (a0.router)), .lit (.int .u8 ((a0.dst.getD 0 0))), .lit (.int .u8 ((a0.dst.getD 1 0))), .lit (.int .u8 ((a0.dst.getD 2 0))), .lit (.int .u8 ((a0.dst.getD 3 0))), .lit (.int .u8 ((a0.dst.getD 4 0))), .lit (.int .u8 ((a0.dst.getD 5 0))), .lit (.int .u8 ((a0.dst.getD 6 0))), .lit (.int .u8 ((a0.dst.getD 7 0))), .lit (.int .u8 ((a0.dst.getD 8 0))), .lit (.int .u8 ((a0.dst.getD 9 0))), .lit (.int .u8 ((a0.dst.getD 10 0))), .lit (.int .u8 ((a0.dst.getD 11 0))), .lit (.int .u8 ((a0.dst.getD 12 0))), .lit (.int .u8 ((a0.dst.getD 13 0))), .lit (.int .u8 ((a0.dst.getD 14 0))), .lit (.int .u8 ((a0.dst.getD 15 0)))], .agg (S_Notice.cs a1)] 5 1 (List.length a0.elements) (.agg [.slc 1 1000003 (List.length r.elements) (List.map (ecI .u8) r.elements), .lit (.int .u64 (r.router)), .lit (.int .u8 ((r.dst.getD 0 0))), .lit (.int .u8 ((r.dst.getD 1 0))), .lit (.int .u8 ((r.dst.getD 2 0))), .lit (.int .u8 ((r.dst.getD 3 0))), .lit (.int .u8 ((r.dst.getD 4 0))), .lit (.int .u8 ((r.dst.getD 5 0))), .lit (.int .u8 ((r.dst.getD 6 0))), .lit (.int .u8 ((r.dst.getD 7 0))), .lit (.int .u8 ((r.dst.getD 8 0))), .lit (.int .u8 ((r.dst.getD 9 0))), .lit (.int .u8 ((r.dst.getD 10 0))), .lit (.int .u8 ((r.dst.getD 11 0))), .lit (.int .u8 ((r.dst.getD 12 0))), .lit (.int .u8 ((r.dst.getD 13 0))), .lit (.int .u8 ((r.dst.getD 14 0))), .lit (.int .u8 ((r.dst.getD 15 0)))]) (List.length r.elements) := by
  unfold F_messages_state_notice_H00 at h
  refine con_ofGA [] 80 0 0 _ Try.func46 rfl rfl (by kernel_rfl) rfl rfl (fun K => ?_)
  refine TS_go 22 ?_
  replace h := condO h
  rcases h with ⟨hb1, h⟩ | ⟨hb1, h⟩
  · refine TS_know 10 (b := true) hb1 (by kernel_rfl) (by kernel_rfl) ?_
    refine TS_know 9 (b := true) hb1 (by kernel_rfl) (by kernel_rfl) ?_
    refine TS_T (by kernel_rfl) rfl ?_
    refine TS_go 1 ?_
    refine TS_draw (by kernel_rfl) ?_
    refine TD_go 4 ?_
    replace h := bindO h
    obtain ⟨v2, hv2, h⟩ := h
    refine TD_conX (d := 15) (e := 900000) [[2]] (okT_octets_Append ([] : List Int) (IntKind.wrap .u64 a1.Seq) 2 v2 hv2) (by kernel_rfl) (by kernel_rfl) ?_
    replace h := bindO h
    obtain ⟨v3, hv3, h⟩ := h
    refine TD_conG 1000001 [[], [], [2]] (ok_messages_state_element_H00 a0 1 v2 v3 hv3) (by kernel_rfl) (by kernel_rfl) (by kernel_rfl) ?_
    refine TD_go 1 ?_
    refine TD_end (by kernel_rfl) ?_
    refine TS_go 3 ?_
    have ret := Option.some.inj h
    subst ret
    exact TS_retG (sz1 := 1) (xs1 := List.map (ecI .u8) a0.elements) (by kernel_rfl) (by kernel_rfl) (by kernel_rfl) (by kernel_rfl)
  · refine TS_know 10 (b := false) hb1 (by kernel_rfl) (by kernel_rfl) ?_
    refine TS_know 9 (b := false) hb1 (by kernel_rfl) (by kernel_rfl) ?_
    refine TS_F (by kernel_rfl) rfl ?_
    refine TS_go 5 ?_
    replace h := condO h
    rcases h with ⟨hb4, h⟩ | ⟨hb4, h⟩
    · refine TS_know 18 (b := true) hb4 (by kernel_rfl) (by kernel_rfl) ?_
      refine TS_know 17 (b := true) hb4 (by kernel_rfl) (by kernel_rfl) ?_
      refine TS_T (by kernel_rfl) rfl ?_
      refine TS_go 5 ?_
      replace h := bindO h
      obtain ⟨v5, hv5, h⟩ := h
      refine TS_con [[2]] [(22, 900000)] none (okT_octets_Append ([] : List Int) a1.Neighbour 8 v5 hv5) (by kernel_rfl) (by kernel_rfl) (by kernel_rfl) ?_
      refine TS_go 3 ?_
      refine TS_draw (by kernel_rfl) ?_
      refine TD_go 5 ?_
      replace h := bindO h
      obtain ⟨v6, hv6, h⟩ := h
      refine TD_conX (d := 28) (e := 900000) [[2]] (okT_octets_Append v5 (IntKind.wrap .u64 a1.Metric) 2 v6 hv6) (by kernel_rfl) (by kernel_rfl) ?_
      replace h := bindO h
      obtain ⟨v7, hv7, h⟩ := h
      refine TD_conG 1000001 [[], [], [2]] (ok_messages_state_element_H00 a0 2 v6 v7 hv7) (by kernel_rfl) (by kernel_rfl) (by kernel_rfl) ?_
      refine TD_go 1 ?_
      refine TD_end (by kernel_rfl) ?_
      refine TS_go 3 ?_
      have ret := Option.some.inj h
      subst ret
      exact TS_retG (sz1 := 1) (xs1 := List.map (ecI .u8) a0.elements) (by kernel_rfl) (by kernel_rfl) (by kernel_rfl) (by kernel_rfl)
    · refine TS_know 18 (b := false) hb4 (by kernel_rfl) (by kernel_rfl) ?_
      refine TS_know 17 (b := false) hb4 (by kernel_rfl) (by kernel_rfl) ?_
      refine TS_F (by kernel_rfl) rfl ?_
      refine TS_go 5 ?_
      replace h := condO h
      rcases h with ⟨hb8, h⟩ | ⟨hb8, h⟩
      · refine TS_know 31 (b := true) hb8 (by kernel_rfl) (by kernel_rfl) ?_
        refine TS_know 30 (b := true) hb8 (by kernel_rfl) (by kernel_rfl) ?_
        refine TS_T (by kernel_rfl) rfl ?_
        refine TS_go 4 ?_
        replace h := bindO h
        obtain ⟨v9, hv9, h⟩ := h
        refine TS_conG 1000001 [] (ok_messages_state_update_H00 a0 a1 v9 hv9) (by kernel_rfl) (by kernel_rfl) (by kernel_rfl) ?_
        refine TS_go 5 ?_
        have ret := Option.some.inj h
        subst ret
        exact TS_retG (sz1 := 1) (xs1 := List.map (ecI .u8) a0.elements) (by kernel_rfl) (by kernel_rfl) (by kernel_rfl) (by kernel_rfl)
      · refine TS_know 31 (b := false) hb8 (by kernel_rfl) (by kernel_rfl) ?_
        refine TS_know 30 (b := false) hb8 (by kernel_rfl) (by kernel_rfl) ?_
        refine TS_F (by kernel_rfl) rfl ?_
        refine TS_go 18 ?_
        refine TS_litNT 45 5 1 (ecI .u8) [] ([IntKind.wrap .u8 a1.To.Dst.Bits, IntKind.wrap .u8 a1.To.Src.Bits] : List Int) (by kernel_rfl) (by kernel_rfl) ?_
        refine TS_go 2 ?_
        refine TS_cut ⟨[(2000000, []), (2, []), (3, []), (4, []), (5, []), (6, [])], [(1000001, (1000001, [])), (2, (2, [])), (3, (3, [])), (4, (4, [])), (45, (45, []))]⟩ (.mk [.code (codeAt [1, 1, 1, 1, 1] (bodyOf Try.f46))] .normal ⟨[(2000000, .c (.slc 1 1000003 (List.length a0.elements) (List.map (ecI .u8) a0.elements))), (2, .c (.box 2 0)), (3, .c (.box 3 0)), (4, .c (.box 4 0)), (5, .c (.slc 1 47 (List.length ([IntKind.wrap .u8 a1.To.Dst.Bits, IntKind.wrap .u8 a1.To.Src.Bits] : List Int)) (List.map (ecI .u8) ([IntKind.wrap .u8 a1.To.Dst.Bits, IntKind.wrap .u8 a1.To.Src.Bits] : List Int)))), (6, .c (.lit (.int .u8 (4))))], [(1000001, .spare 5 1 (List.length a0.elements)), (2, .box [.slc 1 1000003 (List.length a0.elements) (List.map (ecI .u8) a0.elements), .lit (.int .u64 (a0.router)), .lit (.int .u8 ((a0.dst.getD 0 0))), .lit (.int .u8 ((a0.dst.getD 1 0))), .lit (.int .u8 ((a0.dst.getD 2 0))), .lit (.int .u8 ((a0.dst.getD 3 0))), .lit (.int .u8 ((a0.dst.getD 4 0))), .lit (.int .u8 ((a0.dst.getD 5 0))), .lit (.int .u8 ((a0.dst.getD 6 0))), .lit (.int .u8 ((a0.dst.getD 7 0))), .lit (.int .u8 ((a0.dst.getD 8 0))), .lit (.int .u8 ((a0.dst.getD 9 0))), .lit (.int .u8 ((a0.dst.getD 10 0))), .lit (.int .u8 ((a0.dst.getD 11 0))), .lit (.int .u8 ((a0.dst.getD 12 0))), .lit (.int .u8 ((a0.dst.getD 13 0))), .lit (.int .u8 ((a0.dst.getD 14 0))), .lit (.int .u8 ((a0.dst.getD 15 0)))]), (3, .box [.lit (.int .i64 (a1.Kind)), .lit (.int .u16 (a1.Seq)), .lit (.int .i64 (a1.Metric)), .lit (.int .u64 (a1.Neighbour)), .lit (.int .u8 ((a1.To.Dst.IP.getD 0 0))), .lit (.int .u8 ((a1.To.Dst.IP.getD 1 0))), .lit (.int .u8 ((a1.To.Dst.IP.getD 2 0))), .lit (.int .u8 ((a1.To.Dst.IP.getD 3 0))), .lit (.int .u8 ((a1.To.Dst.IP.getD 4 0))), .lit (.int .u8 ((a1.To.Dst.IP.getD 5 0))), .lit (.int .u8 ((a1.To.Dst.IP.getD 6 0))), .lit (.int .u8 ((a1.To.Dst.IP.getD 7 0))), .lit (.int .u8 ((a1.To.Dst.IP.getD 8 0))), .lit (.int .u8 ((a1.To.Dst.IP.getD 9 0))), .lit (.int .u8 ((a1.To.Dst.IP.getD 10 0))), .lit (.int .u8 ((a1.To.Dst.IP.getD 11 0))), .lit (.int .u8 ((a1.To.Dst.IP.getD 12 0))), .lit (.int .u8 ((a1.To.Dst.IP.getD 13 0))), .lit (.int .u8 ((a1.To.Dst.IP.getD 14 0))), .lit (.int .u8 ((a1.To.Dst.IP.getD 15 0))), .lit (.int .i64 (a1.To.Dst.Bits)), .lit (.int .u8 ((a1.To.Src.IP.getD 0 0))), .lit (.int .u8 ((a1.To.Src.IP.getD 1 0))), .lit (.int .u8 ((a1.To.Src.IP.getD 2 0))), .lit (.int .u8 ((a1.To.Src.IP.getD 3 0))), .lit (.int .u8 ((a1.To.Src.IP.getD 4 0))), .lit (.int .u8 ((a1.To.Src.IP.getD 5 0))), .lit (.int .u8 ((a1.To.Src.IP.getD 6 0))), .lit (.int .u8 ((a1.To.Src.IP.getD 7 0))), .lit (.int .u8 ((a1.To.Src.IP.getD 8 0))), .lit (.int .u8 ((a1.To.Src.IP.getD 9 0))), .lit (.int .u8 ((a1.To.Src.IP.getD 10 0))), .lit (.int .u8 ((a1.To.Src.IP.getD 11 0))), .lit (.int .u8 ((a1.To.Src.IP.getD 12 0))), .lit (.int .u8 ((a1.To.Src.IP.getD 13 0))), .lit (.int .u8 ((a1.To.Src.IP.getD 14 0))), .lit (.int .u8 ((a1.To.Src.IP.getD 15 0))), .lit (.int .i64 (a1.To.Src.Bits)), .lit (.int .u64 (a1.To.Router)), .lit (.int .i64 (a1.Hops))]), (4, .box [.lit (.slice none 0 0), .lit (.int .u64 (0)), .lit (.int .u8 (0)), .lit (.int .u8 (0)), .lit (.int .u8 (0)), .lit (.int .u8 (0)), .lit (.int .u8 (0)), .lit (.int .u8 (0)), .lit (.int .u8 (0)), .lit (.int .u8 (0)), .lit (.int .u8 (0)), .lit (.int .u8 (0)), .lit (.int .u8 (0)), .lit (.int .u8 (0)), .lit (.int .u8 (0)), .lit (.int .u8 (0)), .lit (.int .u8 (0)), .lit (.int .u8 (0))]), (45, .spare 5 1 (List.length ([IntKind.wrap .u8 a1.To.Dst.Bits, IntKind.wrap .u8 a1.To.Src.Bits] : List Int)))]⟩) (by kernel_rfl) (by kernel_rfl) ?_
        refine TS_joinB ⟨[(2, []), (3, []), (4, []), (5, []), (6, []), (2000000, [])], [(2, (2, [])), (3, (3, [])), (4, (4, [])), (45, (45, [])), (1000001, (1000001, []))]⟩ (fun (v10 : (List Int) × Int) => [(5, .c (.slc 1 47 (List.length v10.1) (List.map (ecI .u8) v10.1))), (6, .c (.lit (.int .u8 (v10.2))))]) (fun (v10 : (List Int) × Int) => [(45, .spare 5 1 (List.length v10.1))]) (F_messages_state_notice_H00_j1 a1 a0) r ?_ ?_
        · clear h
          intro v10 h
          unfold F_messages_state_notice_H00_j1 at h
          refine TS_go 6 ?_
          replace h := bindO h
          obtain ⟨v11, hv11, h⟩ := h
          refine TS_call [] (ok_messages_prefixBytes a1.To.Dst v11 hv11) (by kernel_rfl) (by kernel_rfl) ?_
          replace h := bindO h
          obtain ⟨l12, hl12, h⟩ := h
          refine TS_appT (d := 45) (e := 5) (sz := 1) (N := List.length v10.1) (ecI .u8) (fun _ => by kernel_rfl) (l1 := v10.1) (l2 := v11) (c := .whole) hl12 (by kernel_rfl) (by kernel_rfl) ?_
          refine TS_go 3 ?_
          refine TS_draw (by kernel_rfl) ?_
          refine TD_go 6 ?_
          replace h := bindO h
          obtain ⟨v13, hv13, h⟩ := h
          refine TD_call [] (ok_messages_prefixBytes a1.To.Src v13 hv13) (by kernel_rfl) (by kernel_rfl) ?_
          replace h := bindO h
          obtain ⟨l14, hl14, h⟩ := h
          refine TD_appT (d := 45) (e := 5) (sz := 1) (N := List.length l12) (ecI .u8) (fun _ => by kernel_rfl) (l1 := l12) (l2 := v13) (c := .whole) hl14 (by kernel_rfl) (by kernel_rfl) ?_
          replace h := bindO h
          obtain ⟨v15, hv15, h⟩ := h
          refine TD_conG 1000001 [[], [], [2]] (ok_messages_state_element_H00 a0 v10.2 l14 v15 hv15) (by kernel_rfl) (by kernel_rfl) (by kernel_rfl) ?_
          refine TD_go 1 ?_
          refine TD_end (by kernel_rfl) ?_
          refine TS_go 1 ?_
          have ret := Option.some.inj h
          subst ret
          exact TS_retG (sz1 := 1) (xs1 := List.map (ecI .u8) a0.elements) (by kernel_rfl) (by kernel_rfl) (by kernel_rfl) (by kernel_rfl)
        · refine TS_go 6 ?_
          replace h := condO h
          rcases h with ⟨hb16, h⟩ | ⟨hb16, h⟩
          · refine TS_know 48 (b := true) hb16 (by kernel_rfl) (by kernel_rfl) ?_
            refine TS_T (by kernel_rfl) rfl ?_
            refine TS_go 10 ?_
            replace h := bindO h
            obtain ⟨v17, hv17, h⟩ := h
            refine TS_con [[2]] [(53, 900000)] none (okT_octets_Append ([IntKind.wrap .u8 a1.To.Dst.Bits, IntKind.wrap .u8 a1.To.Src.Bits] : List Int) (IntKind.wrap .u64 a1.Seq) 2 v17 hv17) (by kernel_rfl) (by kernel_rfl) (by kernel_rfl) ?_
            refine TS_go 8 ?_
            refine TS_litNT 58 5 1 (ecI .u8) [] ([IntKind.wrap .u8 a1.Hops] : List Int) (by kernel_rfl) (by kernel_rfl) ?_
            replace h := bindO h
            obtain ⟨l18, hl18, h⟩ := h
            refine TS_appT (d := 53) (e := 5) (sz := 1) (N := List.length v17) (ecI .u8) (fun _ => by kernel_rfl) (l1 := v17) (l2 := ([IntKind.wrap .u8 a1.Hops] : List Int)) (c := .whole) hl18 (by kernel_rfl) (by kernel_rfl) ?_
            refine TS_go 7 ?_
            replace h := bindO h
            obtain ⟨v19, hv19, h⟩ := h
            refine TS_con [[2]] [(64, 900000)] none (okT_octets_Append l18 a1.To.Router 8 v19 hv19) (by kernel_rfl) (by kernel_rfl) (by kernel_rfl) ?_
            refine TS_go 2 ?_
            exact TS_meet (v19, 5) ⟨[(2, []), (3, []), (4, []), (5, []), (6, []), (2000000, [])], [(2, (2, [])), (3, (3, [])), (4, (4, [])), (64, (45, [])), (1000001, (1000001, []))]⟩ h (by kernel_rfl) (by kernel_rfl)
          · refine TS_know 48 (b := false) hb16 (by kernel_rfl) (by kernel_rfl) ?_
            refine TS_F (by kernel_rfl) rfl ?_
            refine TS_go 1 ?_
            exact TS_meet (([IntKind.wrap .u8 a1.To.Dst.Bits, IntKind.wrap .u8 a1.To.Src.Bits] : List Int), 4) ⟨[(2, []), (3, []), (4, []), (5, []), (6, []), (2000000, [])], [(2, (2, [])), (3, (3, [])), (4, (4, [])), (45, (45, [])), (1000001, (1000001, []))]⟩ h (by kernel_rfl) (by kernel_rfl)

/-- (multihop/messages.state).packet -/
noncomputable def F_messages_state_packet (a0 : S_messages_state) (a1 : Int) : Option ((List Int)) :=
  (F_octets_Append ([42, 1] : List Int) (IntKind.wrap .u64 a1) 5).bind fun v1 =>
  (F_octets_Append v1 (IntKind.wrap .u64 (List.length a0.elements : Int)) 2).bind fun v2 =>
  (appO 1 v2 (Cut.app .whole a0.elements)).bind fun l3 =>
  some (l3)
set_option maxRecDepth 100000 in
set_option maxHeartbeats 40000000 in
theorem okT_messages_state_packet (a0 : S_messages_state) (a1 : Int) (r : (List Int)) (h : F_messages_state_packet a0 a1 = some r) : Con Try.prog 47 [.agg (S_messages_state.cs a0), .c (.lit (.int .i64 (a1)))] [] (.c (.slc 1 900002 (List.length r) (List.map (ecI .u8) r))) [(900000, .spare 5 1 (List.length r))] := by
  unfold F_messages_state_packet at h
  refine con_of [] [(900000, [])] 20 Try.func47 rfl rfl (by kernel_rfl) (fun K => ?_)
  refine TS_go 7 ?_
  refine TS_litNT 6 5 1 (ecI .u8) [] ([42, 1] : List Int) (by kernel_rfl) (by kernel_rfl) ?_
  refine TS_go 2 ?_
  replace h := bindO h
  obtain ⟨v1, hv1, h⟩ := h
  refine TS_con [[2]] [(9, 900000)] none (okT_octets_Append ([42, 1] : List Int) (IntKind.wrap .u64 a1) 5 v1 hv1) (by kernel_rfl) (by kernel_rfl) (by kernel_rfl) ?_
  refine TS_go 9 ?_
  replace h := bindO h
  obtain ⟨v2, hv2, h⟩ := h
  refine TS_con [[2]] [(15, 900000)] none (okT_octets_Append v1 (IntKind.wrap .u64 (List.length a0.elements : Int)) 2 v2 hv2) (by kernel_rfl) (by kernel_rfl) (by kernel_rfl) ?_
  refine TS_go 7 ?_
  replace h := bindO h
  obtain ⟨_l3, hl3, h⟩ := h
  refine TS_appT (d := 15) (e := 5) (sz := 1) (N := List.length v2) (ecI .u8) (fun _ => by kernel_rfl) (l1 := v2) (l2 := a0.elements) (c := .whole) hl3 (by kernel_rfl) (by kernel_rfl) ?_
  refine TS_go 2 ?_
  refine TS_fitU ⟨[(4, [])], [(15, (900000, []))]⟩ (by kernel_rfl) ?_
  refine TS_go 1 ?_
  have ret := Option.some.inj h
  subst ret
  exact TS_ret (by kernel_rfl) (by kernel_rfl) (by kernel_rfl)
/-- multihop/messages.Encode -/
noncomputable def F_messages_Encode_l1 (a1 : List S_Notice) (s6 : Int × S_messages_state) : Option ((Int × S_messages_state) ⊕ (S_messages_state)) :=
  bif (decide (s6.1 < (List.length a1 : Int))) then
    (idx a1 s6.1).bind fun e10 =>
    (F_messages_state_notice_H00 s6.2 e10).bind fun v11 =>
    some (Sum.inl (IntKind.wrap .i64 (s6.1 + 1), v11))
  else
    some (Sum.inr s6.2)
noncomputable def F_messages_Encode (a0 : Int) (a1 : List S_Notice) : Option ((List Int) × Int) :=
  bif (decide ((List.length a1 : Int) > 64)) then
    some ((([] : List Int), 3))
  else
    (F_messages_allValid a1).bind fun v2 =>
    bif v2 then
      (F_messages_isCreation a0).bind fun v4 =>
      bif v4 then
        (loopO (F_messages_Encode_l1 a1) (0, (S_messages_state.mk ([] : List Int) 0 [0, 0, 0, 0, 0, 0, 0, 0, 0, 0, 0, 0, 0, 0, 0, 0]))).bind fun b7 =>
        (F_messages_state_packet b7 a0).bind fun v13 =>
        some ((v13, 0))
      else
        some ((([] : List Int), 2))
    else
      some ((([] : List Int), 1))
set_option maxRecDepth 100000 in
set_option maxHeartbeats 40000000 in
theorem okT_messages_Encode (a0 : Int) (a1 : List S_Notice) (r : (List Int) × Int) (h : F_messages_Encode a0 a1 = some r) : Con Try.prog 21 [.c (.lit (.int .i64 (a0))), .c (eS 40 S_Notice.cs (a1))] [] (.tup [(false, [.slc 1 900002 (List.length r.1) (List.map (ecI .u8) r.1)]), (false, [.lit (.int .i64 (r.2))])]) [(900000, .spare 5 1 (List.length r.1))] := by
  unfold F_messages_Encode at h
  refine con_of [] [(900000, [])] 31 Try.func21 rfl rfl (by kernel_rfl) (fun K => ?_)
  refine TS_go 12 ?_
  replace h := condO h
  rcases h with ⟨hb1, h⟩ | ⟨hb1, h⟩
  · refine TS_know 11 (b := true) hb1 (by kernel_rfl) (by kernel_rfl) ?_
    refine TS_T (by kernel_rfl) rfl ?_
    refine TS_go 5 ?_
    refine TS_nilT 4 600000 5 1 (by kernel_rfl) ?_
    refine TS_fitU ⟨[(4, []), (5, [])], [(600000, (900000, []))]⟩ (by kernel_rfl) ?_
    refine TS_go 2 ?_
    have ret := Option.some.inj h
    subst ret
    exact TS_ret (by kernel_rfl) (by kernel_rfl) (by kernel_rfl)
  · refine TS_know 11 (b := false) hb1 (by kernel_rfl) (by kernel_rfl) ?_
    refine TS_F (by kernel_rfl) rfl ?_
    refine TS_go 5 ?_
    replace h := bindO h
    obtain ⟨v2, hv2, h⟩ := h
    refine TS_call [] (ok_messages_allValid a1 v2 hv2) (by kernel_rfl) (by kernel_rfl) ?_
    refine TS_go 2 ?_
    replace h := condO h
    rcases h with ⟨hb3, h⟩ | ⟨hb3, h⟩
    · subst hb3
      refine TS_F (by kernel_rfl) rfl ?_
      refine TS_go 5 ?_
      replace h := bindO h
      obtain ⟨v4, hv4, h⟩ := h
      refine TS_call [] (ok_messages_isCreation a0 v4 hv4) (by kernel_rfl) (by kernel_rfl) ?_
      refine TS_go 2 ?_
      replace h := condO h
      rcases h with ⟨hb5, h⟩ | ⟨hb5, h⟩
      · subst hb5
        refine TS_F (by kernel_rfl) rfl ?_
        refine TS_go 13 ?_
        refine TS_nilB 6 0 600000 5 1 (by kernel_rfl) ?_
        refine TS_cut ⟨[(0, []), (6, []), (18, []), (19, []), (20, [])], [(6, (6, [])), (600000, (600000, []))]⟩ (.mk [.code (codeAt [1, 1, 1, 1, 1, 0, 1, 0] (bodyOf Try.f21)), .blk 0, .code (codeAt [1, 1, 1, 1, 1, 1] (bodyOf Try.f21))] .normal ⟨[(0, .c (.lit (.int .i64 (a0)))), (6, .c (.box 6 0)), (18, .c (.slc 40 0 (List.length a1) (List.map S_Notice.cs a1))), (19, .c (.lit (.int .i64 ((List.length a1 : Int))))), (20, .c (.lit (.int .i64 (0))))], [(6, .box [.slc 1 600002 (List.length ([] : List Int)) (List.map (ecI .u8) ([] : List Int)), .lit (.int .u64 (0)), .lit (.int .u8 (0)), .lit (.int .u8 (0)), .lit (.int .u8 (0)), .lit (.int .u8 (0)), .lit (.int .u8 (0)), .lit (.int .u8 (0)), .lit (.int .u8 (0)), .lit (.int .u8 (0)), .lit (.int .u8 (0)), .lit (.int .u8 (0)), .lit (.int .u8 (0)), .lit (.int .u8 (0)), .lit (.int .u8 (0)), .lit (.int .u8 (0)), .lit (.int .u8 (0)), .lit (.int .u8 (0))]), (600000, .spare 5 1 (List.length ([] : List Int)))]⟩) (by kernel_rfl) (by kernel_rfl) ?_
        replace h := bindO h
        obtain ⟨y8, hl1, hK1⟩ := h
        refine TS_loopB (F_messages_Encode_l1 a1) ⟨[(0, []), (6, []), (18, []), (19, []), (20, [])], [(6, (6, [])), (600000, (600000, []))]⟩ (fun (s6 : Int × S_messages_state) => [(20, .c (.lit (.int .i64 (s6.1))))]) (fun (s6 : Int × S_messages_state) => [(6, .box [.slc 1 600002 (List.length s6.2.elements) (List.map (ecI .u8) s6.2.elements), .lit (.int .u64 (s6.2.router)), .lit (.int .u8 ((s6.2.dst.getD 0 0))), .lit (.int .u8 ((s6.2.dst.getD 1 0))), .lit (.int .u8 ((s6.2.dst.getD 2 0))), .lit (.int .u8 ((s6.2.dst.getD 3 0))), .lit (.int .u8 ((s6.2.dst.getD 4 0))), .lit (.int .u8 ((s6.2.dst.getD 5 0))), .lit (.int .u8 ((s6.2.dst.getD 6 0))), .lit (.int .u8 ((s6.2.dst.getD 7 0))), .lit (.int .u8 ((s6.2.dst.getD 8 0))), .lit (.int .u8 ((s6.2.dst.getD 9 0))), .lit (.int .u8 ((s6.2.dst.getD 10 0))), .lit (.int .u8 ((s6.2.dst.getD 11 0))), .lit (.int .u8 ((s6.2.dst.getD 12 0))), .lit (.int .u8 ((s6.2.dst.getD 13 0))), .lit (.int .u8 ((s6.2.dst.getD 14 0))), .lit (.int .u8 ((s6.2.dst.getD 15 0)))]), (600000, .spare 5 1 (List.length s6.2.elements))]) (0, (S_messages_state.mk ([] : List Int) 0 [0, 0, 0, 0, 0, 0, 0, 0, 0, 0, 0, 0, 0, 0, 0, 0])) y8 (.exit 0) (fun (b : S_messages_state) => b) ⟨[(0, []), (6, [])], [(6, (6, [])), (600000, (600000, []))]⟩ (fun (b7 : S_messages_state) => []) (fun (b7 : S_messages_state) => [(6, .box [.slc 1 600002 (List.length b7.elements) (List.map (ecI .u8) b7.elements), .lit (.int .u64 (b7.router)), .lit (.int .u8 ((b7.dst.getD 0 0))), .lit (.int .u8 ((b7.dst.getD 1 0))), .lit (.int .u8 ((b7.dst.getD 2 0))), .lit (.int .u8 ((b7.dst.getD 3 0))), .lit (.int .u8 ((b7.dst.getD 4 0))), .lit (.int .u8 ((b7.dst.getD 5 0))), .lit (.int .u8 ((b7.dst.getD 6 0))), .lit (.int .u8 ((b7.dst.getD 7 0))), .lit (.int .u8 ((b7.dst.getD 8 0))), .lit (.int .u8 ((b7.dst.getD 9 0))), .lit (.int .u8 ((b7.dst.getD 10 0))), .lit (.int .u8 ((b7.dst.getD 11 0))), .lit (.int .u8 ((b7.dst.getD 12 0))), .lit (.int .u8 ((b7.dst.getD 13 0))), .lit (.int .u8 ((b7.dst.getD 14 0))), .lit (.int .u8 ((b7.dst.getD 15 0)))]), (600000, .spare 5 1 (List.length b7.elements))]) hl1 (by kernel_rfl) (by kernel_rfl) ?_ ?_
        · intro s6 x h hy1
          unfold F_messages_Encode_l1 at h
          refine TS_go 5 ?_
          replace h := condO h
          rcases h with ⟨hb9, h⟩ | ⟨hb9, h⟩
          · refine TS_know 21 (b := true) hb9 (by kernel_rfl) (by kernel_rfl) ?_
            refine TS_T (by kernel_rfl) rfl ?_
            refine TS_go 5 ?_
            replace h := bindO h
            obtain ⟨e10, he10, h⟩ := h
            refine TS_idx S_Notice.cs he10 (by kernel_rfl) (by kernel_rfl) ?_
            refine TS_go 7 ?_
            replace h := bindO h
            obtain ⟨v11, hv11, h⟩ := h
            refine TS_conG 600000 [] (ok_messages_state_notice_H00 s6.2 e10 v11 hv11) (by kernel_rfl) (by kernel_rfl) (by kernel_rfl) ?_
            refine TS_go 7 ?_
            have ret := Option.some.inj h
            subst ret
            exact TS_againB _ ⟨[(0, []), (6, []), (18, []), (19, []), (20, [])], [(6, (6, [])), (600000, (600000, []))]⟩ rfl (by kernel_rfl) (by kernel_rfl)
          · refine TS_know 21 (b := false) hb9 (by kernel_rfl) (by kernel_rfl) ?_
            refine TS_F (by kernel_rfl) rfl ?_
            refine TS_go 2 ?_
            have ret := Option.some.inj h
            subst ret
            exact TS_brkB s6.2 ⟨[(0, []), (6, [])], [(6, (6, [])), (600000, (600000, []))]⟩ rfl (by kernel_rfl) (by kernel_rfl) (by kernel_rfl)
        · intro b7 hb
          subst y8
          have h := hK1
          refine TS_go 5 ?_
          replace h := bindO h
          obtain ⟨v13, hv13, h⟩ := h
          refine TS_con [[2]] [(30, 900000)] none (okT_messages_state_packet b7 a0 v13 hv13) (by kernel_rfl) (by kernel_rfl) (by kernel_rfl) ?_
          refine TS_go 3 ?_
          refine TS_fitU ⟨[(4, []), (5, [])], [(30, (900000, []))]⟩ (by kernel_rfl) ?_
          refine TS_go 1 ?_
          have ret := Option.some.inj h
          subst ret
          exact TS_ret (by kernel_rfl) (by kernel_rfl) (by kernel_rfl)
      · subst hb5
        refine TS_T (by kernel_rfl) rfl ?_
        refine TS_go 5 ?_
        refine TS_nilT 4 600000 5 1 (by kernel_rfl) ?_
        refine TS_fitU ⟨[(4, []), (5, [])], [(600000, (900000, []))]⟩ (by kernel_rfl) ?_
        refine TS_go 2 ?_
        have ret := Option.some.inj h
        subst ret
        exact TS_ret (by kernel_rfl) (by kernel_rfl) (by kernel_rfl)
    · subst hb3
      refine TS_T (by kernel_rfl) rfl ?_
      refine TS_go 5 ?_
      refine TS_nilT 4 600000 5 1 (by kernel_rfl) ?_
      refine TS_fitU ⟨[(4, []), (5, [])], [(600000, (900000, []))]⟩ (by kernel_rfl) ?_
      refine TS_go 2 ?_
      have ret := Option.some.inj h
      subst ret
      exact TS_ret (by kernel_rfl) (by kernel_rfl) (by kernel_rfl)
/-- multihop/octets.Uint -/
noncomputable def F_octets_Uint_l1 (l5 : List Int) (s6 : Int × Int) : Option ((Int × Int) ⊕ (Int)) :=
  bif (decide (s6.2 < (List.length l5 : Int))) then
    (idx l5 s6.2).bind fun e10 =>
    some (Sum.inl (ior .u64 (ishl .u64 s6.1 8) (IntKind.wrap .u64 e10), IntKind.wrap .i64 (s6.2 + 1)))
  else
    some (Sum.inr s6.1)
noncomputable def F_octets_Uint (a0 : List Int) (a1 : Int) (a2 : Int) : Option (Int × Bool) :=
  bif (decide (a2 < 1)) then
    some ((0, false))
  else
    bif (decide (a2 > 8)) then
      some ((0, false))
    else
      bif (decide (a1 < 0)) then
        some ((0, false))
      else
        bif (decide (a1 > (IntKind.wrap .i64 ((List.length a0 : Int) - a2)))) then
          some ((0, false))
        else
          (subO a0 a1 (IntKind.wrap .i64 (a1 + a2))).bind fun l5 =>
          (loopO (F_octets_Uint_l1 l5) (0, 0)).bind fun b7 =>
          some ((b7, true))
set_option maxRecDepth 100000 in
set_option maxHeartbeats 40000000 in
theorem ok_octets_Uint (a0 : List Int) (a1 : Int) (a2 : Int) (r : Int × Bool) (h : F_octets_Uint a0 a1 a2 = some r) : Con Try.prog 48 [.c (eS 1 (ecI .u8) (a0)), .c (.lit (.int .i64 (a1))), .c (.lit (.int .i64 (a2)))] [] (.tup [(false, [.lit (.int .u64 (r.1))]), (false, [.lit (.bool (r.2))])]) [] := by
  unfold F_octets_Uint at h
  refine con_of [] [] 47 Try.func48 rfl rfl (by kernel_rfl) (fun K => ?_)
  refine TS_go 11 ?_
  replace h := condO h
  rcases h with ⟨hb1, h⟩ | ⟨hb1, h⟩
  · refine TS_know 12 (b := true) hb1 (by kernel_rfl) (by kernel_rfl) ?_
    refine TS_know 13 (b := true) hb1 (by kernel_rfl) (by kernel_rfl) ?_
    refine TS_go 16 ?_
    refine TS_T (by kernel_rfl) rfl ?_
    refine TS_go 7 ?_
    have ret := Option.some.inj h
    subst ret
    exact TS_ret (by kernel_rfl) (by kernel_rfl) (by kernel_rfl)
  · refine TS_know 12 (b := false) hb1 (by kernel_rfl) (by kernel_rfl) ?_
    refine TS_know 13 (b := false) hb1 (by kernel_rfl) (by kernel_rfl) ?_
    refine TS_go 4 ?_
    replace h := condO h
    rcases h with ⟨hb2, h⟩ | ⟨hb2, h⟩
    · refine TS_know 15 (b := true) hb2 (by kernel_rfl) (by kernel_rfl) ?_
      refine TS_know 16 (b := true) hb2 (by kernel_rfl) (by kernel_rfl) ?_
      refine TS_know 17 (b := true) hb2 (by kernel_rfl) (by kernel_rfl) ?_
      refine TS_go 12 ?_
      refine TS_T (by kernel_rfl) rfl ?_
      refine TS_go 7 ?_
      have ret := Option.some.inj h
      subst ret
      exact TS_ret (by kernel_rfl) (by kernel_rfl) (by kernel_rfl)
    · refine TS_know 15 (b := false) hb2 (by kernel_rfl) (by kernel_rfl) ?_
      refine TS_know 16 (b := false) hb2 (by kernel_rfl) (by kernel_rfl) ?_
      refine TS_know 17 (b := false) hb2 (by kernel_rfl) (by kernel_rfl) ?_
      refine TS_go 4 ?_
      replace h := condO h
      rcases h with ⟨hb3, h⟩ | ⟨hb3, h⟩
      · refine TS_know 19 (b := true) hb3 (by kernel_rfl) (by kernel_rfl) ?_
        refine TS_know 20 (b := true) hb3 (by kernel_rfl) (by kernel_rfl) ?_
        refine TS_know 21 (b := true) hb3 (by kernel_rfl) (by kernel_rfl) ?_
        refine TS_go 8 ?_
        refine TS_T (by kernel_rfl) rfl ?_
        refine TS_go 7 ?_
        have ret := Option.some.inj h
        subst ret
        exact TS_ret (by kernel_rfl) (by kernel_rfl) (by kernel_rfl)
      · refine TS_know 19 (b := false) hb3 (by kernel_rfl) (by kernel_rfl) ?_
        refine TS_know 20 (b := false) hb3 (by kernel_rfl) (by kernel_rfl) ?_
        refine TS_know 21 (b := false) hb3 (by kernel_rfl) (by kernel_rfl) ?_
        refine TS_go 8 ?_
        replace h := condO h
        rcases h with ⟨hb4, h⟩ | ⟨hb4, h⟩
        · refine TS_know 27 (b := true) hb4 (by kernel_rfl) (by kernel_rfl) ?_
          refine TS_know 28 (b := true) hb4 (by kernel_rfl) (by kernel_rfl) ?_
          refine TS_T (by kernel_rfl) rfl ?_
          refine TS_go 7 ?_
          have ret := Option.some.inj h
          subst ret
          exact TS_ret (by kernel_rfl) (by kernel_rfl) (by kernel_rfl)
        · refine TS_know 27 (b := false) hb4 (by kernel_rfl) (by kernel_rfl) ?_
          refine TS_know 28 (b := false) hb4 (by kernel_rfl) (by kernel_rfl) ?_
          refine TS_F (by kernel_rfl) rfl ?_
          refine TS_go 13 ?_
          replace h := bindO h
          obtain ⟨l5, hl5, h⟩ := h
          refine TS_sub (ecI .u8) 1 hl5 (by kernel_rfl) (by kernel_rfl) ?_
          refine TS_go 4 ?_
          refine TS_cut ⟨[(8, []), (34, []), (35, []), (36, [])], []⟩ (.mk [.code (codeAt [1, 1, 1, 0, 1, 0] (bodyOf Try.f48)), .blk 0, .code (codeAt [1, 1, 1, 1] (bodyOf Try.f48))] .normal ⟨[(8, .c (.lit (.int .u64 (0)))), (34, .c (.slc 1 0 (List.length l5) (List.map (ecI .u8) l5))), (35, .c (.lit (.int .i64 ((List.length l5 : Int))))), (36, .c (.lit (.int .i64 (0))))], []⟩) (by kernel_rfl) (by kernel_rfl) ?_
          replace h := bindO h
          obtain ⟨y8, hl1, hK1⟩ := h
          refine TS_loopB (F_octets_Uint_l1 l5) ⟨[(8, []), (34, []), (35, []), (36, [])], []⟩ (fun (s6 : Int × Int) => [(8, .c (.lit (.int .u64 (s6.1)))), (36, .c (.lit (.int .i64 (s6.2))))]) (fun (s6 : Int × Int) => []) (0, 0) y8 (.exit 0) (fun (b : Int) => b) ⟨[(8, [])], []⟩ (fun (b7 : Int) => [(8, .c (.lit (.int .u64 (b7))))]) (fun (b7 : Int) => []) hl1 (by kernel_rfl) (by kernel_rfl) ?_ ?_
          · intro s6 x h hy1
            unfold F_octets_Uint_l1 at h
            refine TS_go 5 ?_
            replace h := condO h
            rcases h with ⟨hb9, h⟩ | ⟨hb9, h⟩
            · refine TS_know 37 (b := true) hb9 (by kernel_rfl) (by kernel_rfl) ?_
              refine TS_T (by kernel_rfl) rfl ?_
              refine TS_go 5 ?_
              replace h := bindO h
              obtain ⟨_e10, he10, h⟩ := h
              refine TS_idx (ecI .u8) he10 (by kernel_rfl) (by kernel_rfl) ?_
              refine TS_go 16 ?_
              have ret := Option.some.inj h
              subst ret
              exact TS_againB _ ⟨[(8, []), (34, []), (35, []), (36, [])], []⟩ rfl (by kernel_rfl) (by kernel_rfl)
            · refine TS_know 37 (b := false) hb9 (by kernel_rfl) (by kernel_rfl) ?_
              refine TS_F (by kernel_rfl) rfl ?_
              refine TS_go 2 ?_
              have ret := Option.some.inj h
              subst ret
              exact TS_brkB s6.1 ⟨[(8, [])], []⟩ rfl (by kernel_rfl) (by kernel_rfl) (by kernel_rfl)
          · intro b7 hb
            subst y8
            have h := hK1
            refine TS_go 8 ?_
            have ret := Option.some.inj h
            subst ret
            exact TS_ret (by kernel_rfl) (by kernel_rfl) (by kernel_rfl)

/-- multihop/messages.read1 -/
noncomputable def F_messages_read_1_R472 (a0 : Int) (a1 : Int) (a2 : List Int) : Option (Int) :=
  (F_octets_Uint a2 a0 a1).bind fun v1 =>
  some (v1.1)
set_option maxRecDepth 100000 in
set_option maxHeartbeats 40000000 in
theorem ok_messages_read_1_R472 (a0 : Int) (a1 : Int) (a2 : List Int) (r : Int) (h : F_messages_read_1_R472 a0 a1 a2 = some r) : Con Try.prog 71 [.c (.lit (.int .i64 (a0))), .c (.lit (.int .i64 (a1))), .c (.ref ([eS 1 (ecI .u8) (a2)]))] [] (.c (.lit (.int .u64 (r)))) [] := by
  unfold F_messages_read_1_R472 at h
  refine con_of [] [] 16 Try.func71 rfl rfl (by kernel_rfl) (fun K => ?_)
  refine TS_go 9 ?_
  replace h := bindO h
  obtain ⟨v1, hv1, h⟩ := h
  refine TS_call [] (ok_octets_Uint a2 a0 a1 v1 hv1) (by kernel_rfl) (by kernel_rfl) ?_
  refine TS_go 12 ?_
  have ret := Option.some.inj h
  subst ret
  exact TS_ret (by kernel_rfl) (by kernel_rfl) (by kernel_rfl)

/-- multihop/messages.prefixes -/
noncomputable def F_messages_prefixes (a0 : S_Notice) (a1 : Int) (a2 : Int) (a3 : Int) (a4 : List Int) (a5 : List Int) (a6 : Int) : Option (S_Notice × Bool) :=
  bif (decide (a1 > 128)) then
    some (((S_Notice.mk 0 0 0 0 (S_Destination.mk (S_Prefix.mk [0, 0, 0, 0, 0, 0, 0, 0, 0, 0, 0, 0, 0, 0, 0, 0] 0) (S_Prefix.mk [0, 0, 0, 0, 0, 0, 0, 0, 0, 0, 0, 0, 0, 0, 0, 0] 0) 0) 0), false))
  else
    bif (decide (a2 > 128)) then
      some (((S_Notice.mk 0 0 0 0 (S_Destination.mk (S_Prefix.mk [0, 0, 0, 0, 0, 0, 0, 0, 0, 0, 0, 0, 0, 0, 0, 0] 0) (S_Prefix.mk [0, 0, 0, 0, 0, 0, 0, 0, 0, 0, 0, 0, 0, 0, 0, 0] 0) 0) 0), false))
    else
      (F_messages_size (IntKind.wrap .i64 a1)).bind fun v3 =>
      bif (decide (a3 > (IntKind.wrap .u64 v3))) then
        some (((S_Notice.mk 0 0 0 0 (S_Destination.mk (S_Prefix.mk [0, 0, 0, 0, 0, 0, 0, 0, 0, 0, 0, 0, 0, 0, 0, 0] 0) (S_Prefix.mk [0, 0, 0, 0, 0, 0, 0, 0, 0, 0, 0, 0, 0, 0, 0, 0] 0) 0) 0), false))
      else
        bif (decide ((List.length a5 : Int) < a6)) then
          some (((S_Notice.mk 0 0 0 0 (S_Destination.mk (S_Prefix.mk [0, 0, 0, 0, 0, 0, 0, 0, 0, 0, 0, 0, 0, 0, 0, 0] 0) (S_Prefix.mk [0, 0, 0, 0, 0, 0, 0, 0, 0, 0, 0, 0, 0, 0, 0, 0] 0) 0) 0), false))
        else
          (F_messages_size (IntKind.wrap .i64 a1)).bind fun v6 =>
          (F_messages_size (IntKind.wrap .i64 a2)).bind fun v7 =>
          bif ((List.length a5 : Int) != (IntKind.wrap .i64 ((IntKind.wrap .i64 (a6 + (IntKind.wrap .i64 (v6 - (IntKind.wrap .i64 a3))))) + v7))) then
            some (((S_Notice.mk 0 0 0 0 (S_Destination.mk (S_Prefix.mk [0, 0, 0, 0, 0, 0, 0, 0, 0, 0, 0, 0, 0, 0, 0, 0] 0) (S_Prefix.mk [0, 0, 0, 0, 0, 0, 0, 0, 0, 0, 0, 0, 0, 0, 0, 0] 0) 0) 0), false))
          else
            (subO (arrL 16 a4) 0 (IntKind.wrap .i64 a3)).bind fun l9 =>
            bif decide ((0 : Int) ≤ (IntKind.wrap .i64 a3) ∧ (IntKind.wrap .i64 a3) ≤ (16 : Int) ∧ (16 : Int) ≤ (16 : Int)) then
              (subO a5 a6 (IntKind.wrap .i64 (a6 + (IntKind.wrap .i64 (v6 - (IntKind.wrap .i64 a3)))))).bind fun l11 =>
              bif decide ((Int.toNat (IntKind.wrap .i64 a3)) + (Int.toNat (16 : Int) - Int.toNat (IntKind.wrap .i64 a3)) ≤ 16) then
                (subO a5 (IntKind.wrap .i64 (a6 + (IntKind.wrap .i64 (v6 - (IntKind.wrap .i64 a3))))) (List.length a5 : Int)).bind fun l13 =>
                some (((S_Notice.mk a0.Kind a0.Seq a0.Metric a0.Neighbour (S_Destination.mk (S_Prefix.mk (cpAt 16 (cpA 16 a0.To.Dst.IP (Cut.app .whole l9)) (Int.toNat (IntKind.wrap .i64 a3)) (Int.toNat (16 : Int) - Int.toNat (IntKind.wrap .i64 a3)) (Cut.app .whole l11)) (IntKind.wrap .i64 a1)) (S_Prefix.mk (cpA 16 a0.To.Src.IP (Cut.app .whole l13)) (IntKind.wrap .i64 a2)) a0.To.Router) a0.Hops), true))
              else none
            else none
set_option maxRecDepth 100000 in
set_option maxHeartbeats 40000000 in
theorem ok_messages_prefixes (a0 : S_Notice) (a1 : Int) (a2 : Int) (a3 : Int) (a4 : List Int) (a5 : List Int) (a6 : Int) (r : S_Notice × Bool) (h : F_messages_prefixes a0 a1 a2 a3 a4 a5 a6 = some r) : Con Try.prog 72 [.agg (S_Notice.cs a0), .c (.lit (.int .u64 (a1))), .c (.lit (.int .u64 (a2))), .c (.lit (.int .u64 (a3))), .agg (arrS .u8 16 a4), .c (eS 1 (ecI .u8) (a5)), .c (.lit (.int .i64 (a6)))] [] (.tup [(true, S_Notice.cs r.1), (false, [.lit (.bool (r.2))])]) [] := by
  unfold F_messages_prefixes at h
  refine con_of [] [] 98 Try.func72 rfl rfl (by kernel_rfl) (fun K => ?_)
  refine TS_go 3 ?_
  refine TS_boxF (cs := [.lit (.int .u8 ((a4.getD 0 0))), .lit (.int .u8 ((a4.getD 1 0))), .lit (.int .u8 ((a4.getD 2 0))), .lit (.int .u8 ((a4.getD 3 0))), .lit (.int .u8 ((a4.getD 4 0))), .lit (.int .u8 ((a4.getD 5 0))), .lit (.int .u8 ((a4.getD 6 0))), .lit (.int .u8 ((a4.getD 7 0))), .lit (.int .u8 ((a4.getD 8 0))), .lit (.int .u8 ((a4.getD 9 0))), .lit (.int .u8 ((a4.getD 10 0))), .lit (.int .u8 ((a4.getD 11 0))), .lit (.int .u8 ((a4.getD 12 0))), .lit (.int .u8 ((a4.getD 13 0))), .lit (.int .u8 ((a4.getD 14 0))), .lit (.int .u8 ((a4.getD 15 0)))]) (by kernel_rfl) (by kernel_rfl) ?_
  refine TS_go 9 ?_
  replace h := condO h
  rcases h with ⟨hb1, h⟩ | ⟨hb1, h⟩
  · refine TS_know 19 (b := true) hb1 (by kernel_rfl) (by kernel_rfl) ?_
    refine TS_know 20 (b := true) hb1 (by kernel_rfl) (by kernel_rfl) ?_
    refine TS_go 18 ?_
    refine TS_T (by kernel_rfl) rfl ?_
    refine TS_go 8 ?_
    have ret := Option.some.inj h
    subst ret
    exact TS_ret (by kernel_rfl) (by kernel_rfl) (by kernel_rfl)
  · refine TS_know 19 (b := false) hb1 (by kernel_rfl) (by kernel_rfl) ?_
    refine TS_know 20 (b := false) hb1 (by kernel_rfl) (by kernel_rfl) ?_
    refine TS_go 4 ?_
    replace h := condO h
    rcases h with ⟨hb2, h⟩ | ⟨hb2, h⟩
    · refine TS_know 22 (b := true) hb2 (by kernel_rfl) (by kernel_rfl) ?_
      refine TS_know 23 (b := true) hb2 (by kernel_rfl) (by kernel_rfl) ?_
      refine TS_know 24 (b := true) hb2 (by kernel_rfl) (by kernel_rfl) ?_
      refine TS_go 14 ?_
      refine TS_T (by kernel_rfl) rfl ?_
      refine TS_go 8 ?_
      have ret := Option.some.inj h
      subst ret
      exact TS_ret (by kernel_rfl) (by kernel_rfl) (by kernel_rfl)
    · refine TS_know 22 (b := false) hb2 (by kernel_rfl) (by kernel_rfl) ?_
      refine TS_know 23 (b := false) hb2 (by kernel_rfl) (by kernel_rfl) ?_
      refine TS_know 24 (b := false) hb2 (by kernel_rfl) (by kernel_rfl) ?_
      refine TS_go 3 ?_
      replace h := bindO h
      obtain ⟨v3, hv3, h⟩ := h
      refine TS_call [] (ok_messages_size (IntKind.wrap .i64 a1) v3 hv3) (by kernel_rfl) (by kernel_rfl) ?_
      refine TS_go 4 ?_
      replace h := condO h
      rcases h with ⟨hb4, h⟩ | ⟨hb4, h⟩
      · refine TS_know 30 (b := true) hb4 (by kernel_rfl) (by kernel_rfl) ?_
        refine TS_know 31 (b := true) hb4 (by kernel_rfl) (by kernel_rfl) ?_
        refine TS_know 32 (b := true) hb4 (by kernel_rfl) (by kernel_rfl) ?_
        refine TS_go 6 ?_
        refine TS_T (by kernel_rfl) rfl ?_
        refine TS_go 8 ?_
        have ret := Option.some.inj h
        subst ret
        exact TS_ret (by kernel_rfl) (by kernel_rfl) (by kernel_rfl)
      · refine TS_know 30 (b := false) hb4 (by kernel_rfl) (by kernel_rfl) ?_
        refine TS_know 31 (b := false) hb4 (by kernel_rfl) (by kernel_rfl) ?_
        refine TS_know 32 (b := false) hb4 (by kernel_rfl) (by kernel_rfl) ?_
        refine TS_go 6 ?_
        replace h := condO h
        rcases h with ⟨hb5, h⟩ | ⟨hb5, h⟩
        · refine TS_know 36 (b := true) hb5 (by kernel_rfl) (by kernel_rfl) ?_
          refine TS_know 37 (b := true) hb5 (by kernel_rfl) (by kernel_rfl) ?_
          refine TS_T (by kernel_rfl) rfl ?_
          refine TS_go 8 ?_
          have ret := Option.some.inj h
          subst ret
          exact TS_ret (by kernel_rfl) (by kernel_rfl) (by kernel_rfl)
        · refine TS_know 36 (b := false) hb5 (by kernel_rfl) (by kernel_rfl) ?_
          refine TS_know 37 (b := false) hb5 (by kernel_rfl) (by kernel_rfl) ?_
          refine TS_F (by kernel_rfl) rfl ?_
          refine TS_go 7 ?_
          replace h := bindO h
          obtain ⟨v6, hv6, h⟩ := h
          refine TS_call [] (ok_messages_size (IntKind.wrap .i64 a1) v6 hv6) (by kernel_rfl) (by kernel_rfl) ?_
          refine TS_go 16 ?_
          replace h := bindO h
          obtain ⟨v7, hv7, h⟩ := h
          refine TS_call [] (ok_messages_size (IntKind.wrap .i64 a2) v7 hv7) (by kernel_rfl) (by kernel_rfl) ?_
          refine TS_go 3 ?_
          replace h := condO h
          rcases h with ⟨hb8, h⟩ | ⟨hb8, h⟩
          · refine TS_know 56 (b := true) hb8 (by kernel_rfl) (by kernel_rfl) ?_
            refine TS_T (by kernel_rfl) rfl ?_
            refine TS_go 8 ?_
            have ret := Option.some.inj h
            subst ret
            exact TS_ret (by kernel_rfl) (by kernel_rfl) (by kernel_rfl)
          · refine TS_know 56 (b := false) hb8 (by kernel_rfl) (by kernel_rfl) ?_
            refine TS_F (by kernel_rfl) rfl ?_
            refine TS_go 17 ?_
            refine TS_draw (by kernel_rfl) ?_
            refine TD_go 3 ?_
            refine TD_win 7 4 16 (a := 0) (b := 16) (by decide) (by decide) (by kernel_rfl) (by kernel_rfl) ?_
            refine TD_go 1 ?_
            replace h := bindO h
            obtain ⟨l9, hl9, h⟩ := h
            refine TD_slF (k := .u8) (a := 0) (b := IntKind.wrap .i64 a3) 16 a4 (by decide) hl9 (by kernel_rfl) (by kernel_rfl) ?_
            refine TD_cpW (k := .u8) 7 4 16 a0.To.Dst.IP l9 .whole (pre := [.lit (.int .i64 (a0.Kind)), .lit (.int .u16 (a0.Seq)), .lit (.int .i64 (a0.Metric)), .lit (.int .u64 (a0.Neighbour))]) (post := [.lit (.int .i64 (IntKind.wrap .i64 a1)), .lit (.int .u8 ((a0.To.Src.IP.getD 0 0))), .lit (.int .u8 ((a0.To.Src.IP.getD 1 0))), .lit (.int .u8 ((a0.To.Src.IP.getD 2 0))), .lit (.int .u8 ((a0.To.Src.IP.getD 3 0))), .lit (.int .u8 ((a0.To.Src.IP.getD 4 0))), .lit (.int .u8 ((a0.To.Src.IP.getD 5 0))), .lit (.int .u8 ((a0.To.Src.IP.getD 6 0))), .lit (.int .u8 ((a0.To.Src.IP.getD 7 0))), .lit (.int .u8 ((a0.To.Src.IP.getD 8 0))), .lit (.int .u8 ((a0.To.Src.IP.getD 9 0))), .lit (.int .u8 ((a0.To.Src.IP.getD 10 0))), .lit (.int .u8 ((a0.To.Src.IP.getD 11 0))), .lit (.int .u8 ((a0.To.Src.IP.getD 12 0))), .lit (.int .u8 ((a0.To.Src.IP.getD 13 0))), .lit (.int .u8 ((a0.To.Src.IP.getD 14 0))), .lit (.int .u8 ((a0.To.Src.IP.getD 15 0))), .lit (.int .i64 (IntKind.wrap .i64 a2)), .lit (.int .u64 (a0.To.Router)), .lit (.int .i64 (a0.Hops))]) (by kernel_rfl) (by kernel_rfl) (by kernel_rfl) ?_
            refine TD_end (by kernel_rfl) ?_
            refine TS_go 1 ?_
            refine TS_draw (by kernel_rfl) ?_
            refine TD_go 4 ?_
            replace h := chkO h
            obtain ⟨hc10, h⟩ := h
            refine TD_win 7 4 16 (a := IntKind.wrap .i64 a3) (b := (16 : Int)) hc10 (by decide) (by kernel_rfl) (by kernel_rfl) ?_
            refine TD_go 5 ?_
            replace h := bindO h
            obtain ⟨l11, hl11, h⟩ := h
            refine TD_sub (ecI .u8) 1 hl11 (by kernel_rfl) (by kernel_rfl) ?_
            replace h := chkO h
            obtain ⟨hc12, h⟩ := h
            refine TD_cpV (k := .u8) 7 4 16 (Int.toNat (IntKind.wrap .i64 a3)) (Int.toNat (16 : Int) - Int.toNat (IntKind.wrap .i64 a3)) (cpA 16 a0.To.Dst.IP (Cut.app .whole l9)) l11 .whole (pre := [.lit (.int .i64 (a0.Kind)), .lit (.int .u16 (a0.Seq)), .lit (.int .i64 (a0.Metric)), .lit (.int .u64 (a0.Neighbour))]) (post := [.lit (.int .i64 (IntKind.wrap .i64 a1)), .lit (.int .u8 ((a0.To.Src.IP.getD 0 0))), .lit (.int .u8 ((a0.To.Src.IP.getD 1 0))), .lit (.int .u8 ((a0.To.Src.IP.getD 2 0))), .lit (.int .u8 ((a0.To.Src.IP.getD 3 0))), .lit (.int .u8 ((a0.To.Src.IP.getD 4 0))), .lit (.int .u8 ((a0.To.Src.IP.getD 5 0))), .lit (.int .u8 ((a0.To.Src.IP.getD 6 0))), .lit (.int .u8 ((a0.To.Src.IP.getD 7 0))), .lit (.int .u8 ((a0.To.Src.IP.getD 8 0))), .lit (.int .u8 ((a0.To.Src.IP.getD 9 0))), .lit (.int .u8 ((a0.To.Src.IP.getD 10 0))), .lit (.int .u8 ((a0.To.Src.IP.getD 11 0))), .lit (.int .u8 ((a0.To.Src.IP.getD 12 0))), .lit (.int .u8 ((a0.To.Src.IP.getD 13 0))), .lit (.int .u8 ((a0.To.Src.IP.getD 14 0))), .lit (.int .u8 ((a0.To.Src.IP.getD 15 0))), .lit (.int .i64 (IntKind.wrap .i64 a2)), .lit (.int .u64 (a0.To.Router)), .lit (.int .i64 (a0.Hops))]) (by kernel_rfl) hc12 (by kernel_rfl) (by kernel_rfl) ?_
            refine TD_end (by kernel_rfl) ?_
            refine TS_go 1 ?_
            refine TS_draw (by kernel_rfl) ?_
            refine TD_go 3 ?_
            refine TD_win 7 21 16 (a := 0) (b := 16) (by decide) (by decide) (by kernel_rfl) (by kernel_rfl) ?_
            refine TD_go 4 ?_
            replace h := bindO h
            obtain ⟨l13, hl13, h⟩ := h
            refine TD_sub (ecI .u8) 1 hl13 (by kernel_rfl) (by kernel_rfl) ?_
            refine TD_cpW (k := .u8) 7 21 16 a0.To.Src.IP l13 .whole (pre := [.lit (.int .i64 (a0.Kind)), .lit (.int .u16 (a0.Seq)), .lit (.int .i64 (a0.Metric)), .lit (.int .u64 (a0.Neighbour)), .lit (.int .u8 (((cpAt 16 (cpA 16 a0.To.Dst.IP (Cut.app .whole l9)) (Int.toNat (IntKind.wrap .i64 a3)) (Int.toNat (16 : Int) - Int.toNat (IntKind.wrap .i64 a3)) (Cut.app .whole l11)).getD 0 0))), .lit (.int .u8 (((cpAt 16 (cpA 16 a0.To.Dst.IP (Cut.app .whole l9)) (Int.toNat (IntKind.wrap .i64 a3)) (Int.toNat (16 : Int) - Int.toNat (IntKind.wrap .i64 a3)) (Cut.app .whole l11)).getD 1 0))), .lit (.int .u8 (((cpAt 16 (cpA 16 a0.To.Dst.IP (Cut.app .whole l9)) (Int.toNat (IntKind.wrap .i64 a3)) (Int.toNat (16 : Int) - Int.toNat (IntKind.wrap .i64 a3)) (Cut.app .whole l11)).getD 2 0))), .lit (.int .u8 (((cpAt 16 (cpA 16 a0.To.Dst.IP (Cut.app .whole l9)) (Int.toNat (IntKind.wrap .i64 a3)) (Int.toNat (16 : Int) - Int.toNat (IntKind.wrap .i64 a3)) (Cut.app .whole l11)).getD 3 0))), .lit (.int .u8 (((cpAt 16 (cpA 16 a0.To.Dst.IP (Cut.app .whole l9)) (Int.toNat (IntKind.wrap .i64 a3)) (Int.toNat (16 : Int) - Int.toNat (IntKind.wrap .i64 a3)) (Cut.app .whole l11)).getD 4 0))), .lit (.int .u8 (((cpAt 16 (cpA 16 a0.To.Dst.IP (Cut.app .whole l9)) (Int.toNat (IntKind.wrap .i64 a3)) (Int.toNat (16 : Int) - Int.toNat (IntKind.wrap .i64 a3)) (Cut.app .whole l11)).getD 5 0))), .lit (.int .u8 (((cpAt 16 (cpA 16 a0.To.Dst.IP (Cut.app .whole l9)) (Int.toNat (IntKind.wrap .i64 a3)) (Int.toNat (16 : Int) - Int.toNat (IntKind.wrap .i64 a3)) (Cut.app .whole l11)).getD 6 0))), .lit (.int .u8 (((cpAt 16 (cpA 16 a0.To.Dst.IP (Cut.app .whole l9)) (Int.toNat (IntKind.wrap .i64 a3)) (Int.toNat (16 : Int) - Int.toNat (IntKind.wrap .i64 a3)) (Cut.app .whole l11)).getD 7 0))), .lit (.int .u8 (((cpAt 16 (cpA 16 a0.To.Dst.IP (Cut.app .whole l9)) (Int.toNat (IntKind.wrap .i64 a3)) (Int.toNat (16 : Int) - Int.toNat (IntKind.wrap .i64 a3)) (Cut.app .whole l11)).getD 8 0))), .lit (.int .u8 (((cpAt 16 (cpA 16 a0.To.Dst.IP (Cut.app .whole l9)) (Int.toNat (IntKind.wrap .i64 a3)) (Int.toNat (16 : Int) - Int.toNat (IntKind.wrap .i64 a3)) (Cut.app .whole l11)).getD 9 0))), .lit (.int .u8 (((cpAt 16 (cpA 16 a0.To.Dst.IP (Cut.app .whole l9)) (Int.toNat (IntKind.wrap .i64 a3)) (Int.toNat (16 : Int) - Int.toNat (IntKind.wrap .i64 a3)) (Cut.app .whole l11)).getD 10 0))), .lit (.int .u8 (((cpAt 16 (cpA 16 a0.To.Dst.IP (Cut.app .whole l9)) (Int.toNat (IntKind.wrap .i64 a3)) (Int.toNat (16 : Int) - Int.toNat (IntKind.wrap .i64 a3)) (Cut.app .whole l11)).getD 11 0))), .lit (.int .u8 (((cpAt 16 (cpA 16 a0.To.Dst.IP (Cut.app .whole l9)) (Int.toNat (IntKind.wrap .i64 a3)) (Int.toNat (16 : Int) - Int.toNat (IntKind.wrap .i64 a3)) (Cut.app .whole l11)).getD 12 0))), .lit (.int .u8 (((cpAt 16 (cpA 16 a0.To.Dst.IP (Cut.app .whole l9)) (Int.toNat (IntKind.wrap .i64 a3)) (Int.toNat (16 : Int) - Int.toNat (IntKind.wrap .i64 a3)) (Cut.app .whole l11)).getD 13 0))), .lit (.int .u8 (((cpAt 16 (cpA 16 a0.To.Dst.IP (Cut.app .whole l9)) (Int.toNat (IntKind.wrap .i64 a3)) (Int.toNat (16 : Int) - Int.toNat (IntKind.wrap .i64 a3)) (Cut.app .whole l11)).getD 14 0))), .lit (.int .u8 (((cpAt 16 (cpA 16 a0.To.Dst.IP (Cut.app .whole l9)) (Int.toNat (IntKind.wrap .i64 a3)) (Int.toNat (16 : Int) - Int.toNat (IntKind.wrap .i64 a3)) (Cut.app .whole l11)).getD 15 0))), .lit (.int .i64 (IntKind.wrap .i64 a1))]) (post := [.lit (.int .i64 (IntKind.wrap .i64 a2)), .lit (.int .u64 (a0.To.Router)), .lit (.int .i64 (a0.Hops))]) (by kernel_rfl) (by kernel_rfl) (by kernel_rfl) ?_
            refine TD_end (by kernel_rfl) ?_
            refine TS_go 7 ?_
            have ret := Option.some.inj h
            subst ret
            exact TS_ret (by kernel_rfl) (by kernel_rfl) (by kernel_rfl)

/-- multihop/messages.read -/
noncomputable def F_messages_read (a0 : Int) (a1 : List Int) (a2 : S_messages_state) : Option (S_Notice × Bool) :=
  bif (a0 == 1) then
    (F_messages_read_1_R472 0 2 a1).bind fun v2 =>
    some (((S_Notice.mk 1 (IntKind.wrap .u16 v2) 0 0 (S_Destination.mk (S_Prefix.mk [0, 0, 0, 0, 0, 0, 0, 0, 0, 0, 0, 0, 0, 0, 0, 0] 0) (S_Prefix.mk [0, 0, 0, 0, 0, 0, 0, 0, 0, 0, 0, 0, 0, 0, 0, 0] 0) 0) 0), true))
  else
    bif (a0 == 2) then
      (F_messages_read_1_R472 0 8 a1).bind fun v4 =>
      (F_messages_read_1_R472 8 2 a1).bind fun v5 =>
      some (((S_Notice.mk 2 0 (IntKind.wrap .i64 v5) v4 (S_Destination.mk (S_Prefix.mk [0, 0, 0, 0, 0, 0, 0, 0, 0, 0, 0, 0, 0, 0, 0, 0] 0) (S_Prefix.mk [0, 0, 0, 0, 0, 0, 0, 0, 0, 0, 0, 0, 0, 0, 0, 0] 0) 0) 0), true))
    else
      bif (a0 == 3) then
        (F_messages_read_1_R472 3 2 a1).bind fun v7 =>
        (F_messages_read_1_R472 5 2 a1).bind fun v8 =>
        (F_messages_read_1_R472 1 1 a1).bind fun v9 =>
        (F_messages_read_1_R472 2 1 a1).bind fun v10 =>
        (F_messages_read_1_R472 0 1 a1).bind fun v11 =>
        (F_messages_prefixes (S_Notice.mk 3 (IntKind.wrap .u16 v7) (IntKind.wrap .i64 v8) 0 (S_Destination.mk (S_Prefix.mk [0, 0, 0, 0, 0, 0, 0, 0, 0, 0, 0, 0, 0, 0, 0, 0] 0) (S_Prefix.mk [0, 0, 0, 0, 0, 0, 0, 0, 0, 0, 0, 0, 0, 0, 0, 0] 0) a2.router) 0) v9 v10 v11 a2.dst a1 7).bind fun v12 =>
        some ((v12.1, v12.2))
      else
        bif (a0 == 4) then
          (F_messages_read_1_R472 0 1 a1).bind fun v14 =>
          (F_messages_read_1_R472 1 1 a1).bind fun v15 =>
          (F_messages_prefixes (S_Notice.mk 4 0 0 0 (S_Destination.mk (S_Prefix.mk [0, 0, 0, 0, 0, 0, 0, 0, 0, 0, 0, 0, 0, 0, 0, 0] 0) (S_Prefix.mk [0, 0, 0, 0, 0, 0, 0, 0, 0, 0, 0, 0, 0, 0, 0, 0] 0) 0) 0) v14 v15 0 a2.dst a1 2).bind fun v16 =>
          some ((v16.1, v16.2))
        else
          bif (a0 == 5) then
            (F_messages_read_1_R472 2 2 a1).bind fun v18 =>
            (F_messages_read_1_R472 4 1 a1).bind fun v19 =>
            (F_messages_read_1_R472 5 8 a1).bind fun v20 =>
            (F_messages_read_1_R472 0 1 a1).bind fun v21 =>
            (F_messages_read_1_R472 1 1 a1).bind fun v22 =>
            (F_messages_prefixes (S_Notice.mk 5 (IntKind.wrap .u16 v18) 0 0 (S_Destination.mk (S_Prefix.mk [0, 0, 0, 0, 0, 0, 0, 0, 0, 0, 0, 0, 0, 0, 0, 0] 0) (S_Prefix.mk [0, 0, 0, 0, 0, 0, 0, 0, 0, 0, 0, 0, 0, 0, 0, 0] 0) v20) (IntKind.wrap .i64 v19)) v21 v22 0 a2.dst a1 13).bind fun v23 =>
            some ((v23.1, v23.2))
          else
            some (((S_Notice.mk 0 0 0 0 (S_Destination.mk (S_Prefix.mk [0, 0, 0, 0, 0, 0, 0, 0, 0, 0, 0, 0, 0, 0, 0, 0] 0) (S_Prefix.mk [0, 0, 0, 0, 0, 0, 0, 0, 0, 0, 0, 0, 0, 0, 0, 0] 0) 0) 0), false))
set_option maxRecDepth 100000 in
set_option maxHeartbeats 40000000 in
theorem ok_messages_read (a0 : Int) (a1 : List Int) (a2 : S_messages_state) (r : S_Notice × Bool) (h : F_messages_read a0 a1 a2 = some r) : Con Try.prog 64 [.c (.lit (.int .u8 (a0))), .c (eS 1 (ecI .u8) (a1)), .agg (S_messages_state.cs a2)] [] (.tup [(true, S_Notice.cs r.1), (false, [.lit (.bool (r.2))])]) [] := by
  unfold F_messages_read at h
  refine con_of [] [] 93 Try.func64 rfl rfl (by kernel_rfl) (fun K => ?_)
  refine TS_go 2 ?_
  refine TS_boxF (cs := [.slc 1 0 (List.length a1) (List.map (ecI .u8) a1)]) (by kernel_rfl) (by kernel_rfl) ?_
  refine TS_go 6 ?_
  refine TS_mkf (f := 71) (cs := [.ref [.slc 1 0 (List.length a1) (List.map (ecI .u8) a1)]]) (by kernel_rfl) (by kernel_rfl) ?_
  refine TS_go 13 ?_
  replace h := condO h
  rcases h with ⟨hb1, h⟩ | ⟨hb1, h⟩
  · refine TS_know 15 (b := true) hb1 (by kernel_rfl) (by kernel_rfl) ?_
    refine TS_know 14 (b := true) hb1 (by kernel_rfl) (by kernel_rfl) ?_
    refine TS_T (by kernel_rfl) rfl ?_
    refine TS_go 3 ?_
    replace h := bindO h
    obtain ⟨v2, hv2, h⟩ := h
    refine TS_call [] (ok_messages_read_1_R472 0 2 a1 v2 hv2) (by kernel_rfl) (by kernel_rfl) ?_
    refine TS_go 8 ?_
    have ret := Option.some.inj h
    subst ret
    exact TS_ret (by kernel_rfl) (by kernel_rfl) (by kernel_rfl)
  · refine TS_know 15 (b := false) hb1 (by kernel_rfl) (by kernel_rfl) ?_
    refine TS_know 14 (b := false) hb1 (by kernel_rfl) (by kernel_rfl) ?_
    refine TS_F (by kernel_rfl) rfl ?_
    refine TS_go 5 ?_
    replace h := condO h
    rcases h with ⟨hb3, h⟩ | ⟨hb3, h⟩
    · refine TS_know 21 (b := true) hb3 (by kernel_rfl) (by kernel_rfl) ?_
      refine TS_know 20 (b := true) hb3 (by kernel_rfl) (by kernel_rfl) ?_
      refine TS_T (by kernel_rfl) rfl ?_
      refine TS_go 3 ?_
      replace h := bindO h
      obtain ⟨v4, hv4, h⟩ := h
      refine TS_call [] (ok_messages_read_1_R472 0 8 a1 v4 hv4) (by kernel_rfl) (by kernel_rfl) ?_
      refine TS_go 1 ?_
      replace h := bindO h
      obtain ⟨v5, hv5, h⟩ := h
      refine TS_call [] (ok_messages_read_1_R472 8 2 a1 v5 hv5) (by kernel_rfl) (by kernel_rfl) ?_
      refine TS_go 8 ?_
      have ret := Option.some.inj h
      subst ret
      exact TS_ret (by kernel_rfl) (by kernel_rfl) (by kernel_rfl)
    · refine TS_know 21 (b := false) hb3 (by kernel_rfl) (by kernel_rfl) ?_
      refine TS_know 20 (b := false) hb3 (by kernel_rfl) (by kernel_rfl) ?_
      refine TS_F (by kernel_rfl) rfl ?_
      refine TS_go 5 ?_
      replace h := condO h
      rcases h with ⟨hb6, h⟩ | ⟨hb6, h⟩
      · refine TS_know 29 (b := true) hb6 (by kernel_rfl) (by kernel_rfl) ?_
        refine TS_know 28 (b := true) hb6 (by kernel_rfl) (by kernel_rfl) ?_
        refine TS_T (by kernel_rfl) rfl ?_
        refine TS_go 3 ?_
        replace h := bindO h
        obtain ⟨v7, hv7, h⟩ := h
        refine TS_call [] (ok_messages_read_1_R472 3 2 a1 v7 hv7) (by kernel_rfl) (by kernel_rfl) ?_
        refine TS_go 2 ?_
        replace h := bindO h
        obtain ⟨v8, hv8, h⟩ := h
        refine TS_call [] (ok_messages_read_1_R472 5 2 a1 v8 hv8) (by kernel_rfl) (by kernel_rfl) ?_
        refine TS_go 14 ?_
        refine TS_draw (by kernel_rfl) ?_
        refine TD_go 2 ?_
        replace h := bindO h
        obtain ⟨v9, hv9, h⟩ := h
        refine TD_call [] (ok_messages_read_1_R472 1 1 a1 v9 hv9) (by kernel_rfl) (by kernel_rfl) ?_
        refine TD_go 1 ?_
        replace h := bindO h
        obtain ⟨v10, hv10, h⟩ := h
        refine TD_call [] (ok_messages_read_1_R472 2 1 a1 v10 hv10) (by kernel_rfl) (by kernel_rfl) ?_
        refine TD_go 1 ?_
        replace h := bindO h
        obtain ⟨v11, hv11, h⟩ := h
        refine TD_call [] (ok_messages_read_1_R472 0 1 a1 v11 hv11) (by kernel_rfl) (by kernel_rfl) ?_
        refine TD_go 3 ?_
        replace h := bindO h
        obtain ⟨v12, hv12, h⟩ := h
        refine TD_call [] (ok_messages_prefixes (S_Notice.mk 3 (IntKind.wrap .u16 v7) (IntKind.wrap .i64 v8) 0 (S_Destination.mk (S_Prefix.mk [0, 0, 0, 0, 0, 0, 0, 0, 0, 0, 0, 0, 0, 0, 0, 0] 0) (S_Prefix.mk [0, 0, 0, 0, 0, 0, 0, 0, 0, 0, 0, 0, 0, 0, 0, 0] 0) a2.router) 0) v9 v10 v11 a2.dst a1 7 v12 hv12) (by kernel_rfl) (by kernel_rfl) ?_
        refine TD_go 4 ?_
        refine TD_end (by kernel_rfl) ?_
        refine TS_go 3 ?_
        have ret := Option.some.inj h
        subst ret
        exact TS_ret (by kernel_rfl) (by kernel_rfl) (by kernel_rfl)
      · refine TS_know 29 (b := false) hb6 (by kernel_rfl) (by kernel_rfl) ?_
        refine TS_know 28 (b := false) hb6 (by kernel_rfl) (by kernel_rfl) ?_
        refine TS_F (by kernel_rfl) rfl ?_
        refine TS_go 5 ?_
        replace h := condO h
        rcases h with ⟨hb13, h⟩ | ⟨hb13, h⟩
        · refine TS_know 55 (b := true) hb13 (by kernel_rfl) (by kernel_rfl) ?_
          refine TS_know 54 (b := true) hb13 (by kernel_rfl) (by kernel_rfl) ?_
          refine TS_T (by kernel_rfl) rfl ?_
          refine TS_go 7 ?_
          refine TS_draw (by kernel_rfl) ?_
          refine TD_go 2 ?_
          replace h := bindO h
          obtain ⟨v14, hv14, h⟩ := h
          refine TD_call [] (ok_messages_read_1_R472 0 1 a1 v14 hv14) (by kernel_rfl) (by kernel_rfl) ?_
          refine TD_go 1 ?_
          replace h := bindO h
          obtain ⟨v15, hv15, h⟩ := h
          refine TD_call [] (ok_messages_read_1_R472 1 1 a1 v15 hv15) (by kernel_rfl) (by kernel_rfl) ?_
          refine TD_go 3 ?_
          replace h := bindO h
          obtain ⟨v16, hv16, h⟩ := h
          refine TD_call [] (ok_messages_prefixes (S_Notice.mk 4 0 0 0 (S_Destination.mk (S_Prefix.mk [0, 0, 0, 0, 0, 0, 0, 0, 0, 0, 0, 0, 0, 0, 0, 0] 0) (S_Prefix.mk [0, 0, 0, 0, 0, 0, 0, 0, 0, 0, 0, 0, 0, 0, 0, 0] 0) 0) 0) v14 v15 0 a2.dst a1 2 v16 hv16) (by kernel_rfl) (by kernel_rfl) ?_
          refine TD_go 4 ?_
          refine TD_end (by kernel_rfl) ?_
          refine TS_go 3 ?_
          have ret := Option.some.inj h
          subst ret
          exact TS_ret (by kernel_rfl) (by kernel_rfl) (by kernel_rfl)
        · refine TS_know 55 (b := false) hb13 (by kernel_rfl) (by kernel_rfl) ?_
          refine TS_know 54 (b := false) hb13 (by kernel_rfl) (by kernel_rfl) ?_
          refine TS_F (by kernel_rfl) rfl ?_
          refine TS_go 5 ?_
          replace h := condO h
          rcases h with ⟨hb17, h⟩ | ⟨hb17, h⟩
          · refine TS_know 69 (b := true) hb17 (by kernel_rfl) (by kernel_rfl) ?_
            refine TS_know 68 (b := true) hb17 (by kernel_rfl) (by kernel_rfl) ?_
            refine TS_T (by kernel_rfl) rfl ?_
            refine TS_go 3 ?_
            replace h := bindO h
            obtain ⟨v18, hv18, h⟩ := h
            refine TS_call [] (ok_messages_read_1_R472 2 2 a1 v18 hv18) (by kernel_rfl) (by kernel_rfl) ?_
            refine TS_go 2 ?_
            replace h := bindO h
            obtain ⟨v19, hv19, h⟩ := h
            refine TS_call [] (ok_messages_read_1_R472 4 1 a1 v19 hv19) (by kernel_rfl) (by kernel_rfl) ?_
            refine TS_go 8 ?_
            replace h := bindO h
            obtain ⟨v20, hv20, h⟩ := h
            refine TS_call [] (ok_messages_read_1_R472 5 8 a1 v20 hv20) (by kernel_rfl) (by kernel_rfl) ?_
            refine TS_go 5 ?_
            refine TS_draw (by kernel_rfl) ?_
            refine TD_go 2 ?_
            replace h := bindO h
            obtain ⟨v21, hv21, h⟩ := h
            refine TD_call [] (ok_messages_read_1_R472 0 1 a1 v21 hv21) (by kernel_rfl) (by kernel_rfl) ?_
            refine TD_go 1 ?_
            replace h := bindO h
            obtain ⟨v22, hv22, h⟩ := h
            refine TD_call [] (ok_messages_read_1_R472 1 1 a1 v22 hv22) (by kernel_rfl) (by kernel_rfl) ?_
            refine TD_go 3 ?_
            replace h := bindO h
            obtain ⟨v23, hv23, h⟩ := h
            refine TD_call [] (ok_messages_prefixes (S_Notice.mk 5 (IntKind.wrap .u16 v18) 0 0 (S_Destination.mk (S_Prefix.mk [0, 0, 0, 0, 0, 0, 0, 0, 0, 0, 0, 0, 0, 0, 0, 0] 0) (S_Prefix.mk [0, 0, 0, 0, 0, 0, 0, 0, 0, 0, 0, 0, 0, 0, 0, 0] 0) v20) (IntKind.wrap .i64 v19)) v21 v22 0 a2.dst a1 13 v23 hv23) (by kernel_rfl) (by kernel_rfl) ?_
            refine TD_go 4 ?_
            refine TD_end (by kernel_rfl) ?_
            refine TS_go 3 ?_
            have ret := Option.some.inj h
            subst ret
            exact TS_ret (by kernel_rfl) (by kernel_rfl) (by kernel_rfl)
          · refine TS_know 69 (b := false) hb17 (by kernel_rfl) (by kernel_rfl) ?_
            refine TS_know 68 (b := false) hb17 (by kernel_rfl) (by kernel_rfl) ?_
            refine TS_F (by kernel_rfl) rfl ?_
            refine TS_go 9 ?_
            have ret := Option.some.inj h
            subst ret
            exact TS_ret (by kernel_rfl) (by kernel_rfl) (by kernel_rfl)

/-- multihop/messages.parse -/
noncomputable def F_messages_parse_j2 (s1 : (List Int) × (List S_Notice) × S_messages_state) (v16 : S_Notice × Bool) (l12 : List Int) (v18 : S_messages_state) : Option (((List Int) × (List S_Notice) × S_messages_state) ⊕ (((List S_Notice)) ⊕ ((List S_Notice) × Bool))) :=
  (appO 96 s1.2.1 (Cut.app .whole ([v16.1] : List S_Notice))).bind fun l19 =>
  some (Sum.inl (l12, l19, v18))
noncomputable def F_messages_parse_l1  (s1 : (List Int) × (List S_Notice) × S_messages_state) : Option (((List Int) × (List S_Notice) × S_messages_state) ⊕ (((List S_Notice)) ⊕ ((List S_Notice) × Bool))) :=
  bif (decide ((List.length s1.1 : Int) > 0)) then
    bif (decide ((List.length s1.1 : Int) < 2)) then
      some (Sum.inr (Sum.inr (([] : List S_Notice), false)))
    else
      (idx s1.1 1).bind fun e6 =>
      bif (decide ((IntKind.wrap .i64 ((List.length s1.1 : Int) - 2)) < (IntKind.wrap .i64 e6))) then
        some (Sum.inr (Sum.inr (([] : List S_Notice), false)))
      else
        bif (decide ((List.length s1.2.1 : Int) > 64)) then
          some (Sum.inr (Sum.inr (([] : List S_Notice), false)))
        else
          (idx s1.1 0).bind fun e9 =>
          (idx s1.1 1).bind fun e10 =>
          (subO s1.1 2 (IntKind.wrap .i64 (2 + (IntKind.wrap .i64 e10)))).bind fun l11 =>
          (subO s1.1 (IntKind.wrap .i64 (2 + (List.length l11 : Int))) (List.length s1.1 : Int)).bind fun l12 =>
          bif (e9 == 6) then
            (F_octets_Uint l11 0 8).bind fun v14 =>
            bif v14.2 then
              some (Sum.inl (l12, s1.2.1, (S_messages_state.mk s1.2.2.elements v14.1 s1.2.2.dst)))
            else
              some (Sum.inr (Sum.inr (([] : List S_Notice), false)))
          else
            (F_messages_read e9 l11 s1.2.2).bind fun v16 =>
            bif v16.2 then
              bif (v16.1.Kind == 3) then
                (F_messages_parse_j2 s1 v16 l12) (S_messages_state.mk s1.2.2.elements s1.2.2.router v16.1.To.Dst.IP)
              else
                (F_messages_parse_j2 s1 v16 l12) s1.2.2
            else
              some (Sum.inr (Sum.inr (([] : List S_Notice), false)))
  else
    some (Sum.inr (Sum.inl s1.2.1))
noncomputable def F_messages_parse (a0 : List Int) : Option ((List S_Notice) × Bool) :=
  (loopO (F_messages_parse_l1) (a0, ([] : List S_Notice), (S_messages_state.mk ([] : List Int) 0 [0, 0, 0, 0, 0, 0, 0, 0, 0, 0, 0, 0, 0, 0, 0, 0]))).bind (Sum.elim (fun b2 =>
    some ((b2, true))
  ) (fun w21 => some w21))
set_option maxRecDepth 100000 in
set_option maxHeartbeats 40000000 in
theorem okT_messages_parse (a0 : List Int) (r : (List S_Notice) × Bool) (h : F_messages_parse a0 = some r) : Con Try.prog 49 [.c (eS 1 (ecI .u8) (a0))] [] (.tup [(false, [.slc 40 900002 (List.length r.1) (List.map S_Notice.cs r.1)]), (false, [.lit (.bool (r.2))])]) [(900000, .spare 39 40 (List.length r.1))] := by
  unfold F_messages_parse at h
  refine con_of [] [(900000, [])] 81 Try.func49 rfl rfl (by kernel_rfl) (fun K => ?_)
  refine TS_go 15 ?_
  refine TS_nilT 4 600000 39 40 (by kernel_rfl) ?_
  refine TS_cut ⟨[(0, []), (4, []), (5, [])], [(5, (5, [])), (600000, (600000, []))]⟩ (.mk [.code (codeAt [1, 1, 1, 0, 0] (bodyOf Try.f49)), .blk 0, .code (codeAt [1, 1, 1, 1] (bodyOf Try.f49))] .normal ⟨[(0, .c (.slc 1 0 (List.length a0) (List.map (ecI .u8) a0))), (4, .c (.slc 40 600002 (List.length ([] : List S_Notice)) (List.map S_Notice.cs ([] : List S_Notice)))), (5, .c (.box 5 0))], [(5, .box [.lit (.slice none 0 0), .lit (.int .u64 (0)), .lit (.int .u8 (0)), .lit (.int .u8 (0)), .lit (.int .u8 (0)), .lit (.int .u8 (0)), .lit (.int .u8 (0)), .lit (.int .u8 (0)), .lit (.int .u8 (0)), .lit (.int .u8 (0)), .lit (.int .u8 (0)), .lit (.int .u8 (0)), .lit (.int .u8 (0)), .lit (.int .u8 (0)), .lit (.int .u8 (0)), .lit (.int .u8 (0)), .lit (.int .u8 (0)), .lit (.int .u8 (0))]), (600000, .spare 39 40 (List.length ([] : List S_Notice)))]⟩) (by kernel_rfl) (by kernel_rfl) ?_
  replace h := bindO h
  obtain ⟨y3, hl1, hK1⟩ := h
  refine TS_loopB (F_messages_parse_l1) ⟨[(0, []), (4, []), (5, [])], [(600000, (600000, [])), (5, (5, [2]))]⟩ (fun (s1 : (List Int) × (List S_Notice) × S_messages_state) => [(0, .c (eS 1 (ecI .u8) (s1.1))), (4, .c (.slc 40 600002 (List.length s1.2.1) (List.map S_Notice.cs s1.2.1)))]) (fun (s1 : (List Int) × (List S_Notice) × S_messages_state) => [(5, .box (S_messages_state.cs s1.2.2)), (600000, .spare 39 40 (List.length s1.2.1))]) (a0, ([] : List S_Notice), (S_messages_state.mk ([] : List Int) 0 [0, 0, 0, 0, 0, 0, 0, 0, 0, 0, 0, 0, 0, 0, 0, 0])) y3 (.exit 0) (fun (b : (List S_Notice)) => (Sum.inl b : ((List S_Notice)) ⊕ ((List S_Notice) × Bool))) ⟨[(4, [])], [(600000, (600000, []))]⟩ (fun (b2 : (List S_Notice)) => [(4, .c (.slc 40 600002 (List.length b2) (List.map S_Notice.cs b2)))]) (fun (b2 : (List S_Notice)) => [(600000, .spare 39 40 (List.length b2))]) hl1 (by kernel_rfl) (by kernel_rfl) ?_ ?_
  · intro s1 x h hy1
    unfold F_messages_parse_l1 at h
    refine TS_go 7 ?_
    replace h := condO h
    rcases h with ⟨hb4, h⟩ | ⟨hb4, h⟩
    · refine TS_know 14 (b := true) hb4 (by kernel_rfl) (by kernel_rfl) ?_
      refine TS_T (by kernel_rfl) rfl ?_
      refine TS_go 9 ?_
      replace h := condO h
      rcases h with ⟨hb5, h⟩ | ⟨hb5, h⟩
      · refine TS_know 17 (b := true) hb5 (by kernel_rfl) (by kernel_rfl) ?_
        refine TS_know 18 (b := true) hb5 (by kernel_rfl) (by kernel_rfl) ?_
        refine TS_go 15 ?_
        refine TS_T (by kernel_rfl) rfl ?_
        refine TS_go 5 ?_
        refine TS_nilT 2 600001 39 40 (by kernel_rfl) ?_
        refine TS_fitU ⟨[(2, []), (3, [])], [(600001, (900000, []))]⟩ (by kernel_rfl) ?_
        refine TS_go 3 ?_
        have ret := Option.some.inj h
        subst ret
        have hy1q := hy1 _ rfl
        subst hy1q
        replace h := (elimR hK1)
        refine TS_retB rfl (by kernel_rfl) ?_
        refine TS_go 2 ?_
        have ret := Option.some.inj h
        subst ret
        exact TS_ret (by kernel_rfl) (by kernel_rfl) (by kernel_rfl)
      · refine TS_know 17 (b := false) hb5 (by kernel_rfl) (by kernel_rfl) ?_
        refine TS_know 18 (b := false) hb5 (by kernel_rfl) (by kernel_rfl) ?_
        refine TS_go 4 ?_
        replace h := bindO h
        obtain ⟨_e6, he6, h⟩ := h
        refine TS_idx (ecI .u8) he6 (by kernel_rfl) (by kernel_rfl) ?_
        refine TS_go 5 ?_
        replace h := condO h
        rcases h with ⟨hb7, h⟩ | ⟨hb7, h⟩
        · refine TS_know 26 (b := true) hb7 (by kernel_rfl) (by kernel_rfl) ?_
          refine TS_know 27 (b := true) hb7 (by kernel_rfl) (by kernel_rfl) ?_
          refine TS_know 28 (b := true) hb7 (by kernel_rfl) (by kernel_rfl) ?_
          refine TS_go 5 ?_
          refine TS_T (by kernel_rfl) rfl ?_
          refine TS_go 5 ?_
          refine TS_nilT 2 600001 39 40 (by kernel_rfl) ?_
          refine TS_fitU ⟨[(2, []), (3, [])], [(600001, (900000, []))]⟩ (by kernel_rfl) ?_
          refine TS_go 3 ?_
          have ret := Option.some.inj h
          subst ret
          have hy1q := hy1 _ rfl
          subst hy1q
          replace h := (elimR hK1)
          refine TS_retB rfl (by kernel_rfl) ?_
          refine TS_go 2 ?_
          have ret := Option.some.inj h
          subst ret
          exact TS_ret (by kernel_rfl) (by kernel_rfl) (by kernel_rfl)
        · refine TS_know 26 (b := false) hb7 (by kernel_rfl) (by kernel_rfl) ?_
          refine TS_know 27 (b := false) hb7 (by kernel_rfl) (by kernel_rfl) ?_
          refine TS_know 28 (b := false) hb7 (by kernel_rfl) (by kernel_rfl) ?_
          refine TS_go 5 ?_
          replace h := condO h
          rcases h with ⟨hb8, h⟩ | ⟨hb8, h⟩
          · refine TS_know 31 (b := true) hb8 (by kernel_rfl) (by kernel_rfl) ?_
            refine TS_know 32 (b := true) hb8 (by kernel_rfl) (by kernel_rfl) ?_
            refine TS_T (by kernel_rfl) rfl ?_
            refine TS_go 5 ?_
            refine TS_nilT 2 600001 39 40 (by kernel_rfl) ?_
            refine TS_fitU ⟨[(2, []), (3, [])], [(600001, (900000, []))]⟩ (by kernel_rfl) ?_
            refine TS_go 3 ?_
            have ret := Option.some.inj h
            subst ret
            have hy1q := hy1 _ rfl
            subst hy1q
            replace h := (elimR hK1)
            refine TS_retB rfl (by kernel_rfl) ?_
            refine TS_go 2 ?_
            have ret := Option.some.inj h
            subst ret
            exact TS_ret (by kernel_rfl) (by kernel_rfl) (by kernel_rfl)
          · refine TS_know 31 (b := false) hb8 (by kernel_rfl) (by kernel_rfl) ?_
            refine TS_know 32 (b := false) hb8 (by kernel_rfl) (by kernel_rfl) ?_
            refine TS_F (by kernel_rfl) rfl ?_
            refine TS_go 2 ?_
            refine TS_draw (by kernel_rfl) ?_
            refine TD_go 1 ?_
            replace h := bindO h
            obtain ⟨e9, he9, h⟩ := h
            refine TD_idx (ecI .u8) he9 (by kernel_rfl) (by kernel_rfl) ?_
            refine TD_go 3 ?_
            replace h := bindO h
            obtain ⟨_e10, he10, h⟩ := h
            refine TD_idx (ecI .u8) he10 (by kernel_rfl) (by kernel_rfl) ?_
            refine TD_go 3 ?_
            replace h := bindO h
            obtain ⟨l11, hl11, h⟩ := h
            refine TD_sub (ecI .u8) 1 hl11 (by kernel_rfl) (by kernel_rfl) ?_
            refine TD_go 2 ?_
            refine TD_end (by kernel_rfl) ?_
            refine TS_go 6 ?_
            replace h := bindO h
            obtain ⟨l12, hl12, h⟩ := h
            refine TS_sub (ecI .u8) 1 hl12 (by kernel_rfl) (by kernel_rfl) ?_
            refine TS_go 8 ?_
            replace h := condO h
            rcases h with ⟨hb13, h⟩ | ⟨hb13, h⟩
            · refine TS_know 49 (b := true) hb13 (by kernel_rfl) (by kernel_rfl) ?_
              refine TS_T (by kernel_rfl) rfl ?_
              refine TS_go 3 ?_
              replace h := bindO h
              obtain ⟨v14, hv14, h⟩ := h
              refine TS_call [] (ok_octets_Uint l11 0 8 v14 hv14) (by kernel_rfl) (by kernel_rfl) ?_
              refine TS_go 12 ?_
              replace h := condO h
              rcases h with ⟨hb15, h⟩ | ⟨hb15, h⟩
              · refine TS_know 54 (b := true) hb15 (by kernel_rfl) (by kernel_rfl) ?_
                refine TS_know 9 (b := true) hb15 (by kernel_rfl) (by kernel_rfl) ?_
                refine TS_know 55 (b := true) hb15 (by kernel_rfl) (by kernel_rfl) ?_
                refine TS_know 56 (b := false) (notF hb15) (by kernel_rfl) (by kernel_rfl) ?_
                refine TS_F (by kernel_rfl) rfl ?_
                refine TS_go 10 ?_
                have ret := Option.some.inj h
                subst ret
                exact TS_againB _ ⟨[(0, []), (4, []), (5, [])], [(600000, (600000, [])), (5, (5, []))]⟩ rfl (by kernel_rfl) (by kernel_rfl)
              · refine TS_know 54 (b := false) hb15 (by kernel_rfl) (by kernel_rfl) ?_
                refine TS_know 9 (b := false) hb15 (by kernel_rfl) (by kernel_rfl) ?_
                refine TS_know 55 (b := false) hb15 (by kernel_rfl) (by kernel_rfl) ?_
                refine TS_know 56 (b := true) (notT hb15) (by kernel_rfl) (by kernel_rfl) ?_
                refine TS_T (by kernel_rfl) rfl ?_
                refine TS_go 5 ?_
                refine TS_nilT 2 600001 39 40 (by kernel_rfl) ?_
                refine TS_fitU ⟨[(2, []), (3, [])], [(600001, (900000, []))]⟩ (by kernel_rfl) ?_
                refine TS_go 4 ?_
                have ret := Option.some.inj h
                subst ret
                have hy1q := hy1 _ rfl
                subst hy1q
                replace h := (elimR hK1)
                refine TS_retB rfl (by kernel_rfl) ?_
                refine TS_go 2 ?_
                have ret := Option.some.inj h
                subst ret
                exact TS_ret (by kernel_rfl) (by kernel_rfl) (by kernel_rfl)
            · refine TS_know 49 (b := false) hb13 (by kernel_rfl) (by kernel_rfl) ?_
              refine TS_F (by kernel_rfl) rfl ?_
              refine TS_go 6 ?_
              replace h := bindO h
              obtain ⟨v16, hv16, h⟩ := h
              refine TS_call [] (ok_messages_read e9 l11 s1.2.2 v16 hv16) (by kernel_rfl) (by kernel_rfl) ?_
              refine TS_go 13 ?_
              replace h := condO h
              rcases h with ⟨hb17, h⟩ | ⟨hb17, h⟩
              · refine TS_know 65 (b := true) hb17 (by kernel_rfl) (by kernel_rfl) ?_
                refine TS_know 11 (b := true) hb17 (by kernel_rfl) (by kernel_rfl) ?_
                refine TS_know 66 (b := true) hb17 (by kernel_rfl) (by kernel_rfl) ?_
                refine TS_know 67 (b := false) (notF hb17) (by kernel_rfl) (by kernel_rfl) ?_
                refine TS_F (by kernel_rfl) rfl ?_
                refine TS_go 1 ?_
                refine TS_cut ⟨[(0, []), (4, []), (5, []), (10, [])], [(600000, (600000, [])), (5, (5, [])), (10, (10, []))]⟩ (.mk [.code (codeAt [1, 1, 1, 0, 0, 0, 1, 0, 1, 1, 1, 1, 1, 1] (bodyOf Try.f49)), .blk 1] .normal ⟨[(0, .c (.slc 1 0 (List.length l12) (List.map (ecI .u8) l12))), (4, .c (.slc 40 600002 (List.length s1.2.1) (List.map S_Notice.cs s1.2.1))), (5, .c (.box 5 0)), (10, .c (.box 10 0))], [(600000, .spare 39 40 (List.length s1.2.1)), (5, .box [.slc 1 0 (List.length s1.2.2.elements) (List.map (ecI .u8) s1.2.2.elements), .lit (.int .u64 (s1.2.2.router)), .lit (.int .u8 ((s1.2.2.dst.getD 0 0))), .lit (.int .u8 ((s1.2.2.dst.getD 1 0))), .lit (.int .u8 ((s1.2.2.dst.getD 2 0))), .lit (.int .u8 ((s1.2.2.dst.getD 3 0))), .lit (.int .u8 ((s1.2.2.dst.getD 4 0))), .lit (.int .u8 ((s1.2.2.dst.getD 5 0))), .lit (.int .u8 ((s1.2.2.dst.getD 6 0))), .lit (.int .u8 ((s1.2.2.dst.getD 7 0))), .lit (.int .u8 ((s1.2.2.dst.getD 8 0))), .lit (.int .u8 ((s1.2.2.dst.getD 9 0))), .lit (.int .u8 ((s1.2.2.dst.getD 10 0))), .lit (.int .u8 ((s1.2.2.dst.getD 11 0))), .lit (.int .u8 ((s1.2.2.dst.getD 12 0))), .lit (.int .u8 ((s1.2.2.dst.getD 13 0))), .lit (.int .u8 ((s1.2.2.dst.getD 14 0))), .lit (.int .u8 ((s1.2.2.dst.getD 15 0)))]), (10, .box [.lit (.int .i64 (v16.1.Kind)), .lit (.int .u16 (v16.1.Seq)), .lit (.int .i64 (v16.1.Metric)), .lit (.int .u64 (v16.1.Neighbour)), .lit (.int .u8 ((v16.1.To.Dst.IP.getD 0 0))), .lit (.int .u8 ((v16.1.To.Dst.IP.getD 1 0))), .lit (.int .u8 ((v16.1.To.Dst.IP.getD 2 0))), .lit (.int .u8 ((v16.1.To.Dst.IP.getD 3 0))), .lit (.int .u8 ((v16.1.To.Dst.IP.getD 4 0))), .lit (.int .u8 ((v16.1.To.Dst.IP.getD 5 0))), .lit (.int .u8 ((v16.1.To.Dst.IP.getD 6 0))), .lit (.int .u8 ((v16.1.To.Dst.IP.getD 7 0))), .lit (.int .u8 ((v16.1.To.Dst.IP.getD 8 0))), .lit (.int .u8 ((v16.1.To.Dst.IP.getD 9 0))), .lit (.int .u8 ((v16.1.To.Dst.IP.getD 10 0))), .lit (.int .u8 ((v16.1.To.Dst.IP.getD 11 0))), .lit (.int .u8 ((v16.1.To.Dst.IP.getD 12 0))), .lit (.int .u8 ((v16.1.To.Dst.IP.getD 13 0))), .lit (.int .u8 ((v16.1.To.Dst.IP.getD 14 0))), .lit (.int .u8 ((v16.1.To.Dst.IP.getD 15 0))), .lit (.int .i64 (v16.1.To.Dst.Bits)), .lit (.int .u8 ((v16.1.To.Src.IP.getD 0 0))), .lit (.int .u8 ((v16.1.To.Src.IP.getD 1 0))), .lit (.int .u8 ((v16.1.To.Src.IP.getD 2 0))), .lit (.int .u8 ((v16.1.To.Src.IP.getD 3 0))), .lit (.int .u8 ((v16.1.To.Src.IP.getD 4 0))), .lit (.int .u8 ((v16.1.To.Src.IP.getD 5 0))), .lit (.int .u8 ((v16.1.To.Src.IP.getD 6 0))), .lit (.int .u8 ((v16.1.To.Src.IP.getD 7 0))), .lit (.int .u8 ((v16.1.To.Src.IP.getD 8 0))), .lit (.int .u8 ((v16.1.To.Src.IP.getD 9 0))), .lit (.int .u8 ((v16.1.To.Src.IP.getD 10 0))), .lit (.int .u8 ((v16.1.To.Src.IP.getD 11 0))), .lit (.int .u8 ((v16.1.To.Src.IP.getD 12 0))), .lit (.int .u8 ((v16.1.To.Src.IP.getD 13 0))), .lit (.int .u8 ((v16.1.To.Src.IP.getD 14 0))), .lit (.int .u8 ((v16.1.To.Src.IP.getD 15 0))), .lit (.int .i64 (v16.1.To.Src.Bits)), .lit (.int .u64 (v16.1.To.Router)), .lit (.int .i64 (v16.1.Hops))])]⟩) (by kernel_rfl) (by kernel_rfl) ?_
                refine TS_joinB ⟨[(0, []), (4, []), (5, []), (10, [])], [(600000, (600000, [])), (5, (5, [])), (10, (10, []))]⟩ (fun (v18 : S_messages_state) => []) (fun (v18 : S_messages_state) => [(5, .box (S_messages_state.cs v18))]) (F_messages_parse_j2 s1 v16 l12) x ?_ ?_
                · clear h
                  intro v18 h
                  unfold F_messages_parse_j2 at h
                  refine TS_go 3 ?_
                  refine TS_litNT 78 39 40 S_Notice.cs [] ([v16.1] : List S_Notice) (by kernel_rfl) (by kernel_rfl) ?_
                  replace h := bindO h
                  obtain ⟨_l19, hl19, h⟩ := h
                  refine TS_appT (d := 600000) (e := 39) (sz := 40) (N := List.length s1.2.1) S_Notice.cs (fun _ => by kernel_rfl) (l1 := s1.2.1) (l2 := ([v16.1] : List S_Notice)) (c := .whole) hl19 (by kernel_rfl) (by kernel_rfl) ?_
                  refine TS_go 3 ?_
                  have ret := Option.some.inj h
                  subst ret
                  exact TS_againB _ ⟨[(0, []), (4, []), (5, [])], [(600000, (600000, [])), (5, (5, []))]⟩ rfl (by kernel_rfl) (by kernel_rfl)
                · refine TS_go 6 ?_
                  replace h := condO h
                  rcases h with ⟨hb20, h⟩ | ⟨hb20, h⟩
                  · refine TS_know 70 (b := true) hb20 (by kernel_rfl) (by kernel_rfl) ?_
                    refine TS_T (by kernel_rfl) rfl ?_
                    refine TS_go 8 ?_
                    exact TS_meet (S_messages_state.mk s1.2.2.elements s1.2.2.router v16.1.To.Dst.IP) ⟨[(0, []), (4, []), (5, []), (10, [])], [(600000, (600000, [])), (5, (5, [])), (10, (10, []))]⟩ h (by kernel_rfl) (by kernel_rfl)
                  · refine TS_know 70 (b := false) hb20 (by kernel_rfl) (by kernel_rfl) ?_
                    refine TS_F (by kernel_rfl) rfl ?_
                    refine TS_go 1 ?_
                    exact TS_meet s1.2.2 ⟨[(0, []), (4, []), (5, []), (10, [])], [(600000, (600000, [])), (5, (5, [])), (10, (10, []))]⟩ h (by kernel_rfl) (by kernel_rfl)
              · refine TS_know 65 (b := false) hb17 (by kernel_rfl) (by kernel_rfl) ?_
                refine TS_know 11 (b := false) hb17 (by kernel_rfl) (by kernel_rfl) ?_
                refine TS_know 66 (b := false) hb17 (by kernel_rfl) (by kernel_rfl) ?_
                refine TS_know 67 (b := true) (notT hb17) (by kernel_rfl) (by kernel_rfl) ?_
                refine TS_T (by kernel_rfl) rfl ?_
                refine TS_go 5 ?_
                refine TS_nilT 2 600001 39 40 (by kernel_rfl) ?_
                refine TS_fitU ⟨[(2, []), (3, [])], [(600001, (900000, []))]⟩ (by kernel_rfl) ?_
                refine TS_go 3 ?_
                have ret := Option.some.inj h
                subst ret
                have hy1q := hy1 _ rfl
                subst hy1q
                replace h := (elimR hK1)
                refine TS_retB rfl (by kernel_rfl) ?_
                refine TS_go 2 ?_
                have ret := Option.some.inj h
                subst ret
                exact TS_ret (by kernel_rfl) (by kernel_rfl) (by kernel_rfl)
    · refine TS_know 14 (b := false) hb4 (by kernel_rfl) (by kernel_rfl) ?_
      refine TS_F (by kernel_rfl) rfl ?_
      refine TS_go 2 ?_
      have ret := Option.some.inj h
      subst ret
      exact TS_brkB s1.2.1 ⟨[(4, [])], [(600000, (600000, []))]⟩ rfl (by kernel_rfl) (by kernel_rfl) (by kernel_rfl)
  · intro b2 hb
    subst y3
    have h := elimL hK1
    refine TS_go 7 ?_
    refine TS_fitU ⟨[(2, []), (3, [])], [(600000, (900000, []))]⟩ (by kernel_rfl) ?_
    refine TS_go 1 ?_
    have ret := Option.some.inj h
    subst ret
    exact TS_ret (by kernel_rfl) (by kernel_rfl) (by kernel_rfl)
/-- bytes.Equal -/
noncomputable def F_bytes_Equal (a0 : List Int) (a1 : List Int) : Option (Bool) :=
  some (((u8L (Cut.app .whole a0)) == (u8L (Cut.app .whole a1))))
set_option maxRecDepth 100000 in
set_option maxHeartbeats 40000000 in
theorem ok_bytes_Equal (a0 : List Int) (a1 : List Int) (r : Bool) (h : F_bytes_Equal a0 a1 = some r) : Con Try.prog 28 [.c (eS 1 (ecI .u8) (a0)), .c (eS 1 (ecI .u8) (a1))] [] (.c (.lit (.bool (r)))) [] := by
  unfold F_bytes_Equal at h
  refine con_of [] [] 10 Try.func28 rfl rfl (by kernel_rfl) (fun K => ?_)
  refine TS_go 7 ?_
  refine TS_b2s a0 .whole (by kernel_rfl) (by kernel_rfl) ?_
  refine TS_go 1 ?_
  refine TS_b2s a1 .whole (by kernel_rfl) (by kernel_rfl) ?_
  refine TS_str .eql (u8L (Cut.app .whole a0)) (u8L (Cut.app .whole a1)) rfl (by kernel_rfl) (by kernel_rfl) ?_
  refine TS_go 3 ?_
  have ret := Option.some.inj h
  subst ret
  exact TS_ret (by kernel_rfl) (by kernel_rfl) (by kernel_rfl)
end
end Go.Proofs.Ytcemblilhbidgaa
