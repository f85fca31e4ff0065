/-
  Part 3 of what the proof of this law rests on.
-/
import Derived.Test.YtcjoflgnifafiaaKRC2
namespace Go.Proofs.Ytcjoflgnifafiaa
section
section
open Go.RowKit

theorem zeroCells_row {α : Type} {rd : Rd} {z : Value} {sz : Nat} (m : Nat) (f : α → List SC) (z0 : α) (ks : List Nat) (hzs : z.cells.size = sz) (hf : castL ks (z.cells.toList.map SC.lit) = f z0) : RowIs rd sz (Builtin.zeroCells z.cells m).toList ((List.replicate m z0).map f) := by
  have hzl : (f z0).length = sz := by rw [← hf, castL_length, List.length_map, Array.length_toList, hzs]
  refine ⟨fun x hx => ?_, fun i x j y hx hy => ?_⟩
  · obtain ⟨x0, hx0, rfl⟩ := List.mem_map.1 hx
    rw [(List.mem_replicate.1 hx0).2]; exact hzl
  · rw [List.getElem?_map] at hx
    obtain ⟨x0, hx0, rfl⟩ := Option.map_eq_some_iff.1 hx
    have hi : i < m := by have := (List.getElem?_eq_some_iff.1 hx0).1; simpa using this
    have hx1 : x0 = z0 := by rw [List.getElem?_replicate, if_pos hi] at hx0; cases hx0; rfl
    subst hx1
    have hj : j < sz := by have := (List.getElem?_eq_some_iff.1 hy).1; omega
    rw [← hf] at hy
    obtain ⟨k, y0, hy0, rfl⟩ := castL_get ks _ j y hy
    rw [List.getElem?_map] at hy0
    obtain ⟨u, hu', rfl⟩ := Option.map_eq_some_iff.1 hy0
    refine ⟨u, ?_, cast1_imm k (.lit u)⟩
    have hij : i * sz + j < m * sz := by
      have : (i + 1) * sz ≤ m * sz := Nat.mul_le_mul_right _ hi
      rw [Nat.add_mul, Nat.one_mul] at this
      omega
    simp only [Builtin.zeroCells, Array.getElem?_toList, Array.getElem?_map]
    rw [hzs, Array.getElem?_eq_getElem (by simp; omega)]
    simp only [Option.map_some, Array.getElem_range, Option.some.injEq]
    rw [Nat.mul_add_mod_of_lt' hj]
    rw [Array.getElem?_toList] at hu'
    rw [getElem!_def, hu']
theorem zeroCells_one {z : Value} (m : Nat) (hz : ∀ u ∈ z.cells.toList, u.oneCell' = true) : ∀ u ∈ (Builtin.zeroCells z.cells m).toList, u.oneCell' = true := by
  intro u hu
  simp only [Builtin.zeroCells, Array.mem_toList_iff, Array.mem_map, Array.mem_range] at hu
  obtain ⟨i, hi, rfl⟩ := hu
  have hp : 0 < z.cells.size := by
    rcases Nat.eq_zero_or_pos z.cells.size with h | h
    · rw [h] at hi; omega
    · exact h
  have hm := Nat.mod_lt i hp
  rw [getElem!_pos z.cells _ hm]
  exact hz _ (by simp)
section
variable {K : Ctx} {g : Env} {w w' : World} {n : Nat} {a : Act} {s : St} {α : Type}
theorem RG.appended (r : RG K g n a w s) {e sz d : Nat} (f : α → List SC) {l1 l2 : List α} {V V' : Value} {us vals : List Value} (hl : look s.hp d = some (.spare e sz l1.length)) (hux : V = (g.tk d).2) (rx : IRel (rdOf K g s.hp w) V (.slc sz 0 l1.length (l1.map f))) (hs0 : 0 < sz)
    (hown : w.ownsRowM e sz (g.tk d).2 l1.length us) (hrow : RowIs (rdOf K g s.hp w) sz vals (l2.map f)) (hpos : 0 < l2.length)
    (q2 : w'.ownsRowM e sz V' (l1.length + l2.length) (us ++ vals)) (q3 : Keep w (fun b o => (g.tk d).2.ownBlock = some b ∧ l1.length * sz ≤ o) w') (q4 : ∀ k, V'.ownBlock = some k → (g.tk d).2.ownBlock = some k ∨ w.heap.size ≤ k) :
    ∃ g', RG K g' n a w' (s.setR d (.spare e sz (l1 ++ l2).length)) ∧ VRel (rdOf K g' (s.setR d (.spare e sz (l1 ++ l2).length)).hp w') g' V' (.c (.slc sz (d + 2) (l1 ++ l2).length ((l1 ++ l2).map f))) := by
  obtain ⟨aV, cV, hV, hVc, hVm, hvl, hblk⟩ := tk_sliceM hown
  rw [hux] at rx
  obtain ⟨aV', cV', hV', hVc', hVm', hvl', hblk'⟩ := tk_sliceM q2
  let g' : Env := { pos := g.pos, tk := fun e => if e = d then ((g.tk d).1, V') else g.tk e }
  have hgd' : g'.tk d = ((g.tk d).1, V') := by simp [g']
  have hgr : Grew g g' d := ⟨fun _ => rfl, fun e => by by_cases q : e = d <;> simp [g', q], fun e q => by simp [g', q], .inr (by rw [hgd', hvl, hvl']; omega)⟩
  have hlen : (l1 ++ l2).length = l1.length + l2.length := List.length_append
  obtain ⟨r1, hle⟩ := r.grow (g' := g') (w' := w') (r := .spare e sz (l1 ++ l2).length) hl hgr q3 (fun b o' hf => by
      simp only [Foot, hgd'] at hf
      rcases q4 b hf.1 with h5 | h5
      · refine .inl ⟨h5, Nat.le_trans (Nat.mul_le_mul_right _ ?_) hf.2⟩
        omega
      · exact .inr h5) (fun _ q => by cases q) rfl (fun _ => ⟨us ++ vals, by rw [hgd', hlen]; exact q2⟩)
  refine ⟨g', r1, ⟨?_, ?_⟩⟩
  · -- the elements
    have hrx : RowIs (rdOf K g s.hp w) sz us (l1.map f) := by
      rcases hblk with h0 | ⟨bb, hbb, hbk⟩
      · have : l1 = [] := List.eq_nil_of_length_eq_zero h0
        subst this
        have : us = [] := List.eq_nil_of_length_eq_zero (by simpa using hown.1)
        subst this
        exact ⟨by simp, by simp⟩
      · obtain ⟨_, _, valsx, hs | ⟨ad', c', h3, hnil', _⟩⟩ := src_row (rdOf_le g s.hp r.hg.keep) rx
        · obtain ⟨h3, _, _, hrow', hlv', hw'⟩ := hs
          rw [List.length_map] at hlv' hw' h3
          rcases hw' with h0 | ⟨ad', hh, hcells'⟩
          · have : l1 = [] := List.eq_nil_of_length_eq_zero h0
            subst this
            have : us = [] := List.eq_nil_of_length_eq_zero (by simpa using hown.1)
            subst this
            exact ⟨by simp, by simp⟩
          · rw [hV, hbb] at h3
            cases h3
            cases hh
            have : us = valsx := by
              apply List.ext_getElem?
              intro j
              rcases Nat.lt_or_ge j (l1.length * sz) with hj | hj
              · have hju : j < us.length := by rw [hown.1]; exact hj
                have hjv : j < valsx.length := by omega
                have q1 := hown.cells hbk j (us[j]'hju) (List.getElem?_eq_getElem hju)
                have q2 := hcells' j (valsx[j]'hjv) (List.getElem?_eq_getElem hjv)
                rw [q1] at q2
                rw [List.getElem?_eq_getElem hju, List.getElem?_eq_getElem hjv]
                exact q2
              · rw [List.getElem?_eq_none (by rw [hown.1]; exact hj), List.getElem?_eq_none (by omega)]
            rw [this]
            exact hrow'
        · have : l1 = [] := by simpa using hnil'
          subst this
          have : us = [] := List.eq_nil_of_length_eq_zero (by simpa using hown.1)
          subst this
          exact ⟨by simp, by simp⟩
    have hr2 : RowIs (rdOf K g s.hp w) sz (us ++ vals) ((l1 ++ l2).map f) := by
      rw [List.map_append]
      exact hrx.append hrow (by rw [List.length_map]; exact hown.1)
    rcases hblk' with h0 | ⟨bb, hbb, hbk⟩
    · omega
    rw [hV', hbb, ← hlen]
    refine row_is (b := bb) (vals := us ++ vals) (hr2.mono hle) (by simp) (by rw [hlen]; exact hVc') hVm' (fun k v hv hk => ?_)
    -- each cell is read
    have hcell := q2.cells hbk k v hv
    rw [addr_add, Nat.zero_add] at hcell
    rcases q4 bb hbk with h5 | h5
    · -- in place
      rcases Nat.lt_or_ge k (l1.length * sz) with hk1 | hk1
      · rcases hblk with h0 | ⟨b2, hb2, hbk2⟩
        · rw [h0] at hk1; omega
        · rw [h5] at hbk2
          cases hbk2
          rw [hV, hb2] at rx
          have hv2 : us[k]? = some v := by rwa [List.getElem?_append_left (by rw [hown.1]; exact hk1)] at hv
          refine hle _ _ _ ?_
          generalize hsc : SC.slc sz 0 l1.length (l1.map f) = yy at rx
          generalize hvv : Value.slice (some ⟨bb, 0, none⟩) l1.length cV = vv at rx
          cases rx with
          | lit v => cases hsc
          | nil s' a c hm => injection hsc with _ _ h9 _; rw [h9] at hk1; omega
          | ref b o cs f hr hu => cases hsc
          | slc b o n c s' xs' ff hn hc hm hs hr hu =>
            cases hsc
            cases hvv
            have hs0' : 0 < sz := hs0
            have hi2 : k / sz < (l1.map f).length := by rw [List.length_map]; exact Nat.div_lt_of_lt_mul (by rw [Nat.mul_comm]; exact hk1)
            have hx2 := List.getElem?_eq_getElem hi2
            have hlx := hs _ (List.getElem_mem hi2)
            have hj2 : k % sz < ((l1.map f)[k / sz]).length := by rw [hlx]; exact Nat.mod_lt _ hs0'
            have h6 := hr _ _ _ _ hx2 (List.getElem?_eq_getElem hj2)
            rw [Nat.zero_add, show k / sz * sz + k % sz = k by have := Nat.div_add_mod k sz; rw [Nat.mul_comm] at this; omega] at h6
            have h7 := rdOf_le g s.hp r.hg.keep _ _ _ h6
            have h8 := hown.cells h5 k v hv2
            rw [addr_add, Nat.zero_add, h7] at h8
            rw [h6]; exact h8
      · unfold rdOf
        have hnew : ¬ InFoot g' (s.setR d (.spare e sz (l1 ++ l2).length)).hp bb k := by
          rintro ⟨d2, x2, k1, k2⟩
          simp only [St.setR, look_setL] at k1
          split at k1
          · rename_i hdd
            cases k1
            simp only [Foot, ← hdd, hgd'] at k2
            have := (List.getElem?_eq_some_iff.1 hv).1
            rw [q2.1] at this
            omega
          · rename_i hdd
            rw [foot_env ⟨hgr.pos d2, hgr.tk d2 (Ne.symm hdd)⟩] at k2
            exact r.hg.dis d2 d x2 _ bb k (Ne.symm hdd) k1 hl k2 ⟨h5, hk1⟩
        rw [if_neg hnew, if_neg]
        · exact hcell
        · exact fun q => (r.hg.new d _ hl rfl bb k ⟨h5, hk1⟩).elim (fun q2 => Nat.not_lt.2 q2 q.1) q.2
    · unfold rdOf
      have hnew : ¬ InFoot g' (s.setR d (.spare e sz (l1 ++ l2).length)).hp bb k := by
        rintro ⟨d2, x2, k1, k2⟩
        simp only [St.setR, look_setL] at k1
        split at k1
        · rename_i hdd
          cases k1
          simp only [Foot, ← hdd, hgd'] at k2
          have := (List.getElem?_eq_some_iff.1 hv).1
          rw [q2.1] at this
          omega
        · rename_i hdd
          rw [foot_env ⟨hgr.pos d2, hgr.tk d2 (Ne.symm hdd)⟩] at k2
          have := (r.hg.holds d2 x2 k1).lt k2
          omega
      rw [if_neg hnew, if_neg (by have := r.hg.keep.size; omega)]
      exact hcell
  · show _ ≤ vlen (g'.tk d).2 ∧ (_ = vlen (g'.tk d).2 → V' = (g'.tk d).2)
    rw [hgd']
    exact ⟨by rw [hvl', hlen]; exact Nat.le_refl _, fun _ => rfl⟩
end

section
variable {P : Program} {K : Ctx} {n : Nat} {ops : Array Oper} {o : Oper} {s need : St} {α : Type} {C : Cfg} {D : Dr} {Q : Exit → St → Prop}
end
end
section
open Go.RowKit

theorem run_boundsC {P : Program} {w : World} {A : Act} {g : Env} {rd : Rd} {s : St} {o : Oper} (hview : OView g rd A w s o) {lo hi : Option Operand} (hlm : ∀ y, lo = some y → y ∈ o.op.operands.toList) (hhm : ∀ y, hi = some y → y ∈ o.op.operands.toList) {len cap : Nat} {a b : Int} {vlo vhi : Option (IntKind × Int)}
    (hlo : lo.map (opd s) = vlo.map fun p => some (int p.1 p.2)) (hhi : hi.map (opd s) = vhi.map fun p => some (int p.1 p.2)) (ha : a = (vlo.map (·.2)).getD 0) (hb : b = (vhi.map (·.2)).getD (len : Int)) (h0 : 0 ≤ a) (h1 : a ≤ b) (h2 : b ≤ cap) :
    (Instr.sliceBounds true len cap (lo.map A.eval) (hi.map A.eval) (none : Option Value)).run P w = .ok (a.toNat, b.toNat, cap) w := by
  have hb' : (match hi.map A.eval with | some v => Instr.sliceBound v cap .sliceAcap | none => pure len : Sem Nat).run P w = .ok b.toNat w := by
    cases hi with
    | none =>
      cases vhi with
      | none => simp at hb; subst hb; simp
      | some p => simp at hhi
    | some y =>
      cases vhi with
      | none => simp at hhi
      | some p =>
        simp only [Option.map_some, Option.some.injEq, Option.getD_some] at hhi hb
        have := rel_lit (hview.op y _ (hhm y rfl) hhi)
        simp only [Option.map_some, this]
        rw [← hb]
        exact run_bound _ _ _ _ (by omega) (by omega)
  have ha' : (match lo.map A.eval with | some v => Instr.sliceBound v b.toNat .sliceB | none => pure 0 : Sem Nat).run P w = .ok a.toNat w := by
    cases lo with
    | none =>
      cases vlo with
      | none => simp at ha; subst ha; simp
      | some p => simp at hlo
    | some y =>
      cases vlo with
      | none => simp at hlo
      | some p =>
        simp only [Option.map_some, Option.some.injEq, Option.getD_some] at hlo ha
        have := rel_lit (hview.op y _ (hlm y rfl) hlo)
        simp only [Option.map_some, this]
        rw [← ha]
        exact run_bound _ _ _ _ (by omega) (by omega)
  unfold Instr.sliceBounds
  cases hi with
  | none =>
    cases lo with
    | none => simp at ha' hb' ⊢; exact ⟨ha', hb'⟩
    | some y => simp only [Option.map_none, Option.map_some, Sem.run_bind, Sem.run_pure, Result.andThen_ok, Option.isSome_none, Bool.false_eq_true, if_false] at ha' hb' ⊢; cases hb'; rw [ha']; simp
  | some z =>
    cases lo with
    | none => simp only [Option.map_none, Option.map_some, Sem.run_bind, Sem.run_pure, Result.andThen_ok, if_true] at ha' hb' ⊢; rw [hb']; simp at ha' ⊢; exact ha'
    | some y => simp only [Option.map_some, Sem.run_bind, Sem.run_pure, Result.andThen_ok, Option.isSome_none, Bool.false_eq_true, if_false, if_true] at ha' hb' ⊢; rw [hb']; simp only [Result.andThen_ok]; rw [ha']; simp
theorem run_bounds3 {P : Program} {w : World} {A : Act} {g : Env} {rd : Rd} {s : St} {o : Oper} (hview : OView g rd A w s o) {lo : Option Operand} {hi mx : Operand} (hlm : ∀ y, lo = some y → y ∈ o.op.operands.toList) (hhm : hi ∈ o.op.operands.toList) (hmm : mx ∈ o.op.operands.toList) {len cap : Nat} {a b m : Int} {vlo : Option (IntKind × Int)} {kh km : IntKind}
    (hlo : lo.map (opd s) = vlo.map fun p => some (int p.1 p.2)) (hhi : opd s hi = some (int kh b)) (hmx : opd s mx = some (int km m)) (ha : a = (vlo.map (·.2)).getD 0) (h0 : 0 ≤ a) (h1 : a ≤ b) (h2 : b ≤ m) (h3 : m ≤ cap) :
    (Instr.sliceBounds true len cap (lo.map A.eval) (some (A.eval hi)) (some (A.eval mx))).run P w = .ok (a.toNat, b.toNat, m.toNat) w := by
  have e1 := rel_lit (hview.op hi _ hhm hhi)
  have e2 := rel_lit (hview.op mx _ hmm hmx)
  have hm' := run_bound (P := P) (w := w) km m cap .slice3Acap (by omega) h3
  have hb' := run_bound (P := P) (w := w) kh b m.toNat .slice3B (by omega) (by omega)
  unfold Instr.sliceBounds
  rw [e1, e2]
  cases lo with
  | none =>
    cases vlo with
    | none =>
      simp only [Option.map_none, Option.getD_none] at ha
      subst ha
      simp only [Option.map_none, if_true, Sem.run_bind, hm', Result.andThen_ok, hb', Sem.run_pure]
      rfl
    | some p => simp at hlo
  | some y =>
    cases vlo with
    | none => simp at hlo
    | some p =>
      simp only [Option.map_some, Option.some.injEq, Option.getD_some] at hlo ha
      have e3 := rel_lit (hview.op y _ (hlm y rfl) hlo)
      have ha' := run_bound (P := P) (w := w) p.1 p.2 b.toNat .slice3C (by omega) (by omega)
      subst ha
      simp only [Option.map_some, e3, if_true, Sem.run_bind, hm', Result.andThen_ok, hb', Option.isSome_some, ha', Sem.run_pure]

section
variable {P : Program} {o : Oper} {s : St} {α : Type}
def slPArgs (P : Program) (s : St) (o : Oper) : Option (Nat × Nat × Nat × Int × Int) := match o.op with
  | .slice t x lo hi none => match opd s x, P.underlying t with
    | some (.c (.row d m)), some (.slice e') => match look s.hp d, P.info? e' with
      | some (.row _ sz N _), some ie => match bnd s 0 lo, bnd s m hi with
        | some (_, a), some (_, b) => if ie.size = sz then some (d, sz, N, a, b) else none
        | _, _ => none
      | _, _ => none
    | _, _ => none
  | _ => none
theorem slP_run {d sz N : Nat} {a b : Int} (h : slPArgs P s o = some (d, sz, N, a, b)) (hc : decide (0 ≤ a ∧ a ≤ b ∧ b ≤ (N : Int)) = true) {g : Env} {rd : Rd} {A : Act} {w : World} (hview : OView g rd A w s o) :
    ∃ x c, (g.tk d).1 = .slice x N c ∧ N ≤ c ∧ c ≤ maxLen ∧ (N = 0 ∨ ∃ blk, x = some ⟨blk, 0, none⟩) ∧ (execOp A.eval o).run P w = .ok (.value (.slice (if c = a.toNat then x else x.map (·.add (a.toNat * sz))) (b.toNat - a.toNat) (c - a.toNat))) w := by
  unfold slPArgs at h
  split at h
  rotate_left
  · cases h
  rename_i t xo lo hi ho
  split at h
  rotate_left
  · cases h
  rename_i d1 m1 e1 hx hu
  split at h
  rotate_left
  · cases h
  rename_i e2 sz2 N2 xs2 ie hl hie
  split at h
  rotate_left
  · cases h
  rename_i vlo a1 vhi b1 hlo hhi
  split at h
  rotate_left
  · cases h
  rename_i hsz
  cases h
  obtain ⟨c0, c1, c2⟩ := of_decide_eq_true hc
  obtain ⟨us, h3, h4, h5⟩ := hview.holds d _ hl
  obtain ⟨x, c, k1, k2, k3, _, k5⟩ := tk_slice h3
  obtain ⟨x', N', c', r1, hv, r3⟩ := hview.op xo _ (by simp [ho, Op.operands]) hx
  rw [k1] at r1
  cases r1
  refine ⟨x, c, k1, k2, k3, ?_, ?_⟩
  · rcases k5 with k5 | ⟨blk, k5, _⟩
    · exact .inl k5
    · exact .inr ⟨blk, k5⟩
  · obtain ⟨q1, q2⟩ := bnd_spec hlo
    obtain ⟨q3, q4⟩ := bnd_spec hhi
    have hk := run_boundsC (P := P) (A := A) hview (lo := lo) (hi := hi) (fun y hy => by subst hy; simp [ho, Op.operands]) (fun y hy => by subst hy; cases lo <;> simp [ho, Op.operands]) (len := m1) (cap := c) q1 q3 q2 q4 c0 c1 (by omega)
    simp only [execOp, ho, Option.map_none, Instr.sliceAt, Instr.slice, run_underlying hu, hv, hk, sizeOf, typeInfo, program, hie, Sem.run_bind, Sem.run_pure, Sem.run, Result.andThen_ok, hsz]
theorem sub_of_run {d sz N : Nat} {a b : Int} {rd : Rd} {g : Env} {x : Option Addr} {c m : Nat} (k1 : (g.tk d).1 = .slice x N c) (k3 : c ≤ maxLen) (k4 : N = 0 ∨ ∃ blk, x = some ⟨blk, 0, none⟩) (c0 : 0 ≤ a) (c1 : a ≤ b) (c2 : b ≤ (N : Int)) (hm : b.toNat ≤ m) (hmc : m ≤ c) :
    VRel rd g (.slice (if m = a.toNat then x else x.map (·.add (a.toNat * sz))) (b.toNat - a.toNat) (m - a.toNat)) (.c (.sub d sz a.toNat (b.toNat - a.toNat))) := by
  refine ⟨x, N, c, _, _, k1, by omega, rfl, by omega, by omega, ?_⟩
  by_cases hz : b.toNat - a.toNat = 0
  · exact .inl hz
  · right
    rcases k4 with k4 | ⟨blk, k4⟩
    · omega
    · refine ⟨blk, k4, ?_⟩
      rw [if_neg (by omega), k4]
      simp only [Option.map_some, addr_add, Nat.zero_add]
theorem grow_slPSub {d sz N : Nat} {a b : Int} (h : slPArgs P s o = some (d, sz, N, a, b)) (hc : decide (0 ≤ a ∧ a ≤ b ∧ b ≤ (N : Int)) = true) : GrowOp P o s (.c (.sub d sz a.toNat (b.toNat - a.toNat))) := by
  refine PureOp.grow fun g rd A w hview => ?_
  obtain ⟨x, c, k1, k2, k3, k4, k5⟩ := slP_run h hc hview
  obtain ⟨c0, c1, c2⟩ := of_decide_eq_true hc
  exact ⟨_, k5, sub_of_run k1 k3 k4 c0 c1 c2 (by omega) (Nat.le_refl _)⟩
def slMArgs (P : Program) (s : St) (o : Oper) : Option (Nat × Nat × Nat × Int × Int × Int) := match o.op with
  | .slice t x lo (some hi) (some mx) => match (opd s x).bind (preOf s), P.underlying t with
    | some (d, _, sz, N, _, _), some (.slice e') => match P.info? e', bnd s 0 lo, opd s hi, opd s mx with
      | some ie, some (_, a), some (.c (.lit (.int _ b))), some (.c (.lit (.int _ m))) => if ie.size = sz then some (d, sz, N, a, b, m) else none
      | _, _, _, _ => none
    | _, _ => none
  | _ => none
theorem grow_slM {d sz N : Nat} {a b m : Int} (h : slMArgs P s o = some (d, sz, N, a, b, m)) (hc : decide (0 ≤ a ∧ a ≤ b ∧ b ≤ m ∧ m ≤ (N : Int)) = true) : GrowOp P o s (.c (.sub d sz a.toNat (b.toNat - a.toNat))) := by
  refine PureOp.grow fun g rd A w hview => ?_
  unfold slMArgs at h
  split at h
  rotate_left
  · cases h
  rename_i t xo lo hi mx ho
  split at h
  rotate_left
  · cases h
  rename_i d1 e1 sz1 N1 xs1 m1 e2 hx hu
  split at h
  rotate_left
  · cases h
  rename_i ie vlo a1 kb b1 km mm hie hlo hhi hmx
  split at h
  rotate_left
  · cases h
  rename_i hsz
  cases h
  obtain ⟨vx, hx1, hx2⟩ := Option.bind_eq_some_iff.1 hx
  obtain ⟨c0, c1, c2, c3⟩ := of_decide_eq_true hc
  have hl := preOf_look hx2
  obtain ⟨us, h3, h4, h5⟩ := hview.holds d _ hl
  obtain ⟨x, c, k1, k2, k3, _, k5⟩ := tk_slice h3
  have hv : ∃ n, A.eval xo = .slice x n c := by
    have hr := hview.op xo _ (by simp [ho, Op.operands]) hx1
    unfold preOf at hx2
    split at hx2
    · split at hx2
      · cases hx2; exact ⟨_, hr.1.trans k1⟩
      · cases hx2
    · split at hx2
      · cases hx2
        obtain ⟨x', N', c', r1, hv, r3⟩ := hr
        rw [k1] at r1
        cases r1
        exact ⟨_, hv⟩
      · cases hx2
    · cases hx2
  obtain ⟨n0, hv⟩ := hv
  obtain ⟨q1, q2⟩ := bnd_spec hlo
  have hk := run_bounds3 (P := P) (A := A) hview (lo := lo) (hi := hi) (mx := mx) (fun y hy => by subst hy; simp [ho, Op.operands]) (by cases lo <;> simp [ho, Op.operands]) (by cases lo <;> simp [ho, Op.operands]) (len := n0) (cap := c) q1 hhi hmx q2 c0 c1 c2 (by omega)
  refine ⟨.slice (if m.toNat = a.toNat then x else x.map (·.add (a.toNat * sz))) (b.toNat - a.toNat) (m.toNat - a.toNat), ?_, sub_of_run k1 k3 (by
    rcases k5 with k5 | ⟨blk, k5, _⟩
    · exact .inl k5
    · exact .inr ⟨blk, k5⟩) c0 c1 (by omega) (by omega) (by omega)⟩
  simp only [execOp, ho, Option.map_some, Instr.sliceAt, Instr.slice, run_underlying hu, hv, hk, sizeOf, typeInfo, program, hie, Sem.run_bind, Sem.run_pure, Sem.run, Result.andThen_ok, hsz]
end

section
variable {P : Program} {K : Ctx} {n : Nat} {Q : Exit → St → Prop} {C : Cfg} {D : Dr}
theorem TS_slPSub (d sz N : Nat) {a b : Int} (hc : decide (0 ≤ a ∧ a ≤ b ∧ b ≤ (N : Int)) = true) (h : C.with1 (slPArgs P) = some (d, sz, N, a, b)) (hg : C.go1 n = true) (kk : TS P K n (C.ret (.c (.sub d sz a.toNat (b.toNat - a.toNat)))) Q) : TS P K n C Q :=
  TS_val _ hg (fun _os _o ho => grow_slPSub (with1_op h ho) hc) kk
theorem TS_slM (d sz N : Nat) {a b m : Int} (hc : decide (0 ≤ a ∧ a ≤ b ∧ b ≤ m ∧ m ≤ (N : Int)) = true) (h : C.with1 (slMArgs P) = some (d, sz, N, a, b, m)) (hg : C.go1 n = true) (kk : TS P K n (C.ret (.c (.sub d sz a.toNat (b.toNat - a.toNat)))) Q) : TS P K n C Q :=
  TS_val _ hg (fun _os _o ho => grow_slM (with1_op h ho) hc) kk
def rowAt (s : St) (t : Nat) : Option (Nat × Nat × Nat × Nat × Nat × List (List SC)) := match look s.tmps t with
  | some (.c (.row d m)) => match look s.hp d with
    | some (.row e sz N xs) => some (d, m, e, sz, N, xs)
    | _ => none
  | _ => none
theorem ownsRow_cut {w : World} {e sz N m : Nat} {x : Option Addr} {c : Nat} {us : List Value} (h : w.ownsRow 0 e sz (.slice x N c) N us) (hm : m ≤ N) : w.ownsRow 0 e sz (.slice x m c) m (us.take (m * sz)) := by
  have hms : m * sz ≤ N * sz := Nat.mul_le_mul_right _ hm
  refine ⟨by rw [List.length_take, h.1]; omega, ?_⟩
  rcases h.2 with ⟨hn, h0⟩ | ⟨gb, cap, cur, hv, hb, hgg, h1, h2, h3, h4⟩
  · cases hn
    obtain rfl : m = 0 := by omega
    exact .inl ⟨rfl, rfl⟩
  · cases hv
    refine .inr ⟨gb, c, cur, rfl, hb, hgg, by omega, h2, h3, ?_⟩
    rw [← h4, List.take_take, Nat.min_eq_left hms]
theorem TS_trunc (t : Nat) {d m e sz N : Nat} {xs : List (List SC)} (N2 : Nat) (ys : List (List SC)) (hy : xs.take m = ys) (hN : ys.length = N2) (h : rowAt C.st t = some (d, m, e, sz, N, xs)) (he : C.pre = true) (k : TS P K n (C.withS (((C.st.mapC (SC.kill d)).setR d (.row e sz N2 ys)).put (some t) (.c (.own d)))) Q) : TS P K n C Q := by
  unfold rowAt at h
  split at h
  rotate_left
  · cases h
  rename_i d1 m1 hlt
  split at h
  rotate_left
  · cases h
  rename_i e1 sz1 N1 xs1 hl
  cases h
  refine TS_state _ (fun a w r => ?_) he k
  obtain ⟨g, r⟩ := r
  obtain ⟨us, h1, h2, h3⟩ := r.hg.holds d _ hl
  obtain ⟨u, hu1, hu2⟩ := r.tmps t _ hlt
  obtain ⟨x, N', c, k1, rfl, k3⟩ := hu2
  have hN' : N' = N := by
    obtain ⟨x', c', k4, _⟩ := tk_slice h1
    rw [k1] at k4
    cases k4
    rfl
  subst hN'
  rw [k1] at h1
  have hcut := ownsRow_cut h1 k3
  have hm : m = N2 := by rw [← hN, ← hy, List.length_take, h2, Nat.min_eq_left k3]
  let g' : Env := { pos := g.pos, tk := fun e => if e = d then (.slice x m c, (g.tk d).2) else g.tk e }
  have hgd' : g'.tk d = (.slice x m c, (g.tk d).2) := by simp [g']
  have hot : Other g g' d := ⟨fun _ => rfl, fun e q => by simp [g', q], fun e => by by_cases q : e = d <;> simp [g', q]⟩
  obtain ⟨r1, hle⟩ := r.turn (g' := g') (w' := w) (r := .row e sz N2 ys) (SC.kill d) hl (fun _ => rfl) (fun e q => by simp [g', q]) (fun _ => true) (fun _ v _ => v.every_true) (fun _ x _ => x.every_true) (fun hle v y _ hc => hc.kill hle hot) (Keep.refl _ _) (fun b o hf => by
      simp only [Foot, hgd'] at hf
      refine .inl ?_
      simp only [Foot, k1]
      cases x with
      | none => simp [Value.ownBlock] at hf
      | some ad => exact hf) (fun _ q => by cases q) rfl (fun hle => by
      refine ⟨us.take (m * sz), by rw [hgd', ← hm]; exact hcut, hN, ?_⟩
      have := h3.cut 0 m
      simp only [Nat.zero_mul, List.drop_zero, hy] at this
      exact this.mono hle)
  refine ⟨g', r1.defers, r1.size, r1.few, r1.hg, fun j v hv => ?_⟩
  rw [look_put] at hv
  split at hv
  · rename_i hj
    cases hv
    subst hj
    exact ⟨_, hu1, by rw [hgd'], x, m, c, by rw [hgd']⟩
  · exact r1.tmps j v hv
end
end
section
open Go.RowKit

section
variable {P : Program} {K : Ctx} {n : Nat} {Q : Exit → St → Prop} {C : Cfg} {D : Dr} {g : Env} {a : Act} {w : World} {s : St} {o : Oper} {α : Type}
def clrL (l : List α) (a m : Nat) (z : α) : List α := l.take a ++ List.replicate m z ++ l.drop (a + m)
def clrArgs (P : Program) (s : St) (o : Oper) : Option (Nat × Nat × Nat × Nat × List (List SC) × Cut × Nat × List SC) := match o.op with
  | .call { callee := .builtin .clear, args := xs, argTypes := ts } => match xs.toList, ts.toList with
    | [x], [t] => match P.underlying t with
      | some (.slice e') => match P.info? e' with
        | some ie => match ie.zero, (opd s x).bind (rowOfS s) with
          | some z, some (d, e, sz, N, xs, c, a) => if ie.size = sz ∧ 0 < sz ∧ z.cells.size = sz ∧ z.cells.all Value.oneCell' = true then some (d, e, sz, N, xs, c, a, z.cells.toList.map SC.lit) else none
          | _, _ => none
        | none => none
      | _ => none
    | _, _ => none
  | _ => none
theorem rowOfS_look {v : SV} {d e sz N a : Nat} {xs : List (List SC)} {c : Cut} (hx2 : rowOfS s v = some (d, e, sz, N, xs, c, a)) : look s.hp d = some (.row e sz N xs) := by
  unfold rowOfS at hx2
  split at hx2
  · split at hx2
    · rename_i hl; cases hx2; exact hl
    · cases hx2
  · split at hx2
    · rename_i hl; cases hx2; exact hl
    · cases hx2
  · split at hx2
    · rename_i hl
      split at hx2
      · cases hx2; exact hl
      · cases hx2
    · cases hx2
  · cases hx2
theorem upd_clr {d e sz N a : Nat} {f : α → List SC} (z0 : α) (ks : List Nat) {cs : List SC} {l : List α} {c : Cut} (hf : castL ks cs = f z0) (h : clrArgs P s o = some (d, e, sz, N, l.map f, c, a, cs)) :
    UpdOp P o s d (.row e sz N (l.map f)) (.row e sz (clrL l a (c.app l).length z0).length ((clrL l a (c.app l).length z0).map f)) (.tup []) := by
  unfold clrArgs at h
  split at h
  rotate_left
  · cases h
  rename_i xs ts ho
  split at h
  rotate_left
  · cases h
  rename_i x t hxs hts
  have hxs' : xs = #[x] := by rw [← Array.toArray_toList (xs := xs), hxs]
  have hts' : ts = #[t] := by rw [← Array.toArray_toList (xs := ts), hts]
  subst hxs'
  subst hts'
  split at h
  rotate_left
  · cases h
  rename_i e1 hu
  split at h
  rotate_left
  · cases h
  rename_i ie hie
  split at h
  rotate_left
  · cases h
  rename_i z d1 e2 sz2 N2 xs2 c2 a2 hz hx
  split at h
  rotate_left
  · cases h
  rename_i hq
  obtain ⟨hsz, hs0, hzc, hone⟩ := hq
  cases h
  obtain ⟨vx, hx1, hx2⟩ := Option.bind_eq_some_iff.1 hx
  have hl := rowOfS_look hx2
  refine ⟨hl, rfl, fun _ _ _ hf => hf, fun g rd A w hview => ?_⟩
  obtain ⟨_, hr⟩ := rowOfS_rel hx2 hview (hview.op x _ (by simp [ho, Op.operands, Call.operands]) hx1)
  obtain ⟨us, h1, h2, h3⟩ := hr.own
  obtain ⟨xa, cap, q1, q2, q3, q4, q5⟩ := hr.val
  rw [Cut.map, List.length_map] at q1 q2 q4 q5
  simp only [execOp, ho, resolve, invoke, builtin, Sem.run_bind, Sem.run_pure, Result.andThen_ok, List.map_toArray, List.map_cons, List.map_nil, q1]
  generalize hk : (c.app l).length = k at *
  by_cases hk0 : k = 0
  · subst hk0
    have hrun : (Builtin.clear_ #[t] o.type #[.slice xa 0 cap]).run P w = .ok (.tuple #[]) w := by
      cases xa <;> simp [Builtin.clear_, run_underlying hu]
    rw [hrun]
    simp only [Result.andThen_ok]
    refine ⟨_, _, rfl, Keep.refl _ _, .inr ⟨_, rfl, fun rd' _ => ⟨#[], rfl, rfl, fun j y hy => by simp at hy⟩⟩, fun rd' hle => ?_⟩
    have : clrL l a 0 z0 = l := by simp [clrL]
    rw [this]
    have hlN : l.length = N := by simpa using h2
    exact ⟨us, by rw [hlN]; exact h1, by simp, h3.mono hle⟩
  · rcases q5 with q5 | ⟨b, q5, q6⟩
    · omega
    subst q6
    have hzl : (Builtin.zeroCells z.cells k).toList.length = k * sz := by simp [Builtin.zeroCells, hzc]
    have hzr := zeroCells_row (rd := rd) k f z0 ks hzc hf
    have hz1 := zeroCells_one (z := z) k (fun u hu => Array.all_eq_true'.1 hone u (by simpa using hu))
    generalize hvals : (Builtin.zeroCells z.cells k).toList = vals at *
    have hb1 : a * sz + k * sz ≤ N * sz := by rw [← Nat.add_mul]; exact Nat.mul_le_mul_right _ (by omega)
    have hul := h1.1
    have hst := run_storeCells_cells (P := P) b (a * sz) vals 0 w
      (fun j hj => by
        have := h1.cells q5 (a * sz + j) _ (List.getElem?_eq_getElem (by omega))
        rw [addr_add, Nat.zero_add] at this
        rw [Nat.add_zero, this]; rfl)
      (fun j hj => by
        rcases h1.2 with ⟨q, _⟩ | ⟨gb, cap, cur, q1, _, q2, _⟩
        · rw [q] at q5; cases q5
        · rw [q1] at q5; cases q5
          simp [World.frozen?, q2]) hz1
    simp only [Nat.add_zero] at hst
    obtain ⟨o1, o2⟩ := own_write h1 q5 (a * sz) vals (by omega)
    have hrun : (Builtin.clear_ #[t] o.type #[.slice (some ⟨b, a * sz, none⟩) k cap]).run P w = .ok (.tuple #[]) (w.setCells b (a * sz) vals) := by
      obtain ⟨k', rfl⟩ : ∃ k', k = k' + 1 := ⟨k - 1, by omega⟩
      simp [Builtin.clear_, run_underlying hu, zeroValue, typeInfo, hie, hz, hvals, hst]
    rw [hrun]
    simp only [Result.andThen_ok]
    refine ⟨_, _, rfl, o2, .inr ⟨_, rfl, fun rd' _ => ⟨#[], rfl, rfl, fun j y hy => by simp at hy⟩⟩, fun rd' hle => ⟨_, (by
      have hlN : (clrL l a k z0).length = N := by
        unfold clrL
        simp only [List.length_map, List.length_append, List.length_take, List.length_drop, List.length_replicate] at h2 ⊢
        omega
      rw [hlN]; exact o1), by simp, ?_⟩⟩
    unfold clrL
    rw [List.map_append, List.map_append, hzl, ← Nat.add_mul]
    refine RowIs.mono hle ?_
    have e1 : RowIs rd sz (us.take (a * sz)) ((l.take a).map f) := by
      have := h3.cut 0 a
      simpa [List.map_take] using this
    have e3 : RowIs rd sz (us.drop ((a + k) * sz)) ((l.drop (a + k)).map f) := by
      have := h3.cut (a + k) (N - (a + k))
      have q : (us.drop ((a + k) * sz)).take ((N - (a + k)) * sz) = us.drop ((a + k) * sz) := List.take_of_length_le (by rw [List.length_drop, hul, ← Nat.sub_mul]; exact Nat.le_refl _)
      have q' : ((l.map f).drop (a + k)).take (N - (a + k)) = (l.drop (a + k)).map f := by
        rw [List.map_drop]; exact List.take_of_length_le (by rw [List.length_drop, h2]; exact Nat.le_refl _)
      rw [q, q'] at this
      exact this
    have hal : a ≤ l.length := by rw [List.length_map] at h2; omega
    refine (e1.append hzr ?_).append e3 ?_
    · simp only [List.length_map, List.length_take]; rw [Nat.min_eq_left (by rw [hul]; omega), Nat.min_eq_left hal]
    · simp only [List.length_map, List.length_append, List.length_take, hzl, List.length_replicate]; rw [Nat.min_eq_left (by rw [hul]; omega), Nat.min_eq_left hal, Nat.add_mul]
theorem TS_clr (d e sz N a : Nat) (f : α → List SC) (z0 : α) (ks : List Nat) {cs : List SC} {l : List α} (c : Cut) (hf : castL ks cs = f z0) (h : C.with1 (clrArgs P) = some (d, e, sz, N, l.map f, c, a, cs)) (hg : C.go1 n = true) (kk : TS P K n (C.next ((C.st.setR d (.row e sz (clrL l a (c.app l).length z0).length ((clrL l a (c.app l).length z0).map f))).put C.dst (.tup []))) Q) : TS P K n C Q :=
  TS_upd (fun _os _o ho => upd_clr z0 ks hf (with1_op h ho)) hg kk
end
end
section
open Go.RowKit

section
variable {P : Program} {K : Ctx} {n : Nat} {Q : Exit → St → Prop} {C : Cfg} {D : Dr} {s : St} {o : Oper} {α : Type}
end
end
section
open Go.RowKit

end
section
open Go.RowKit

section
variable {P : Program} {K : Ctx} {n : Nat} {Q : Exit → St → Prop} {C : Cfg} {D : Dr} {s : St} {o : Oper} {α : Type}
end
section
variable {P : Program} {K : Ctx} {n : Nat} {Q : Exit → St → Prop} {C : Cfg}
end
end
end
section
open Go.RowKit
attribute [local irreducible] TS go TD goD

structure S_multihopmade_Tape where
  l : List Int
  at_ : Int
def S_multihopmade_Tape.cs (x : S_multihopmade_Tape) : List SC := [eS 1 (ecI .i64) (x.l)] ++ [.lit (.int .i64 (x.at_))]

structure S_Settings where
  Version : Int
  Data : List Int
  Tag : List Int
def S_Settings.cs (x : S_Settings) : List SC := [.lit (.int .i64 (x.Version))] ++ [eS 1 (ecI .u8) (x.Data)] ++ arrS .u8 8 x.Tag

structure S_multihopref03_state where
  a : Int
  b : Int
  c : Int
  d : Int
def S_multihopref03_state.cs (x : S_multihopref03_state) : List SC := [.lit (.int .u64 (x.a))] ++ [.lit (.int .u64 (x.b))] ++ [.lit (.int .u64 (x.c))] ++ [.lit (.int .u64 (x.d))]

structure S_Diagnostic where
  Node : Int
  Number : Int
  Data : List Int
def S_Diagnostic.cs (x : S_Diagnostic) : List SC := [.lit (.int .u64 (x.Node))] ++ [.lit (.int .i64 (x.Number))] ++ [eS 1 (ecI .u8) (x.Data)]

theorem ext_86 : Ext1 Try.prog 86 Extern.BytealgCompare.compare := ⟨_, Try.func86, by kernel_rfl, by kernel_rfl⟩
/-- multihop/multihopmade.New -/
noncomputable def F_made_New_j1  (v1 : (List Int)) : Option (S_multihopmade_Tape) :=
  some ((S_multihopmade_Tape.mk v1 0))
noncomputable def F_made_New (a0 : List Int) : Option (S_multihopmade_Tape) :=
  bif (decide ((List.length a0 : Int) > 400)) then
    (subO a0 0 400).bind fun l3 =>
    (F_made_New_j1) l3
  else
    (F_made_New_j1) a0
set_option maxRecDepth 100000 in
set_option maxHeartbeats 40000000 in
theorem ok_made_New (a0 : List Int) (r : S_multihopmade_Tape) (h : F_made_New a0 = some r) : Con Try.prog 11 [.c (eS 1 (ecI .i64) (a0))] [] (.c (.box 10 0)) [(10, .box (S_multihopmade_Tape.cs r))] := by
  unfold F_made_New at h
  refine con_of [] [(10, [2])] 11 Try.func11 rfl rfl (by kernel_rfl) (fun K => ?_)
  refine TS_go 4 ?_
  refine TS_cut ⟨[(0, [])], []⟩ (.mk [.code (codeAt [1] (bodyOf Try.f11))] .normal ⟨[(0, .c (.slc 1 0 (List.length a0) (List.map (ecI .i64) a0)))], []⟩) (by kernel_rfl) (by kernel_rfl) ?_
  refine TS_joinB ⟨[(0, [])], []⟩ (fun (v1 : (List Int)) => [(0, .c (eS 1 (ecI .i64) (v1)))]) (fun (v1 : (List Int)) => []) (F_made_New_j1) r ?_ ?_
  · clear h
    intro v1 h
    unfold F_made_New_j1 at h
    refine TS_go 8 ?_
    have ret := Option.some.inj h
    subst ret
    exact TS_ret (by kernel_rfl) (by kernel_rfl) (by kernel_rfl)
  · refine TS_go 6 ?_
    replace h := condO h
    rcases h with ⟨hb2, h⟩ | ⟨hb2, h⟩
    · refine TS_know 5 (b := true) hb2 (by kernel_rfl) (by kernel_rfl) ?_
      refine TS_T (by kernel_rfl) rfl ?_
      refine TS_go 2 ?_
      replace h := bindO h
      obtain ⟨l3, hl3, h⟩ := h
      refine TS_sub (ecI .i64) 1 hl3 (by kernel_rfl) (by kernel_rfl) ?_
      refine TS_go 2 ?_
      exact TS_meet l3 ⟨[(0, [])], []⟩ h (by kernel_rfl) (by kernel_rfl)
    · refine TS_know 5 (b := false) hb2 (by kernel_rfl) (by kernel_rfl) ?_
      refine TS_F (by kernel_rfl) rfl ?_
      refine TS_go 1 ?_
      exact TS_meet a0 ⟨[(0, [])], []⟩ h (by kernel_rfl) (by kernel_rfl)

/-- (*multihop/multihopmade.Tape).Next -/
noncomputable def F_made_Tape_Next_j1 (a0 : S_multihopmade_Tape) (v4 : Int) : Option (Int × S_multihopmade_Tape) :=
  some ((v4, (S_multihopmade_Tape.mk a0.l (IntKind.wrap .i64 (a0.at_ + 1)))))
noncomputable def F_made_Tape_Next (a0 : S_multihopmade_Tape) (a1 : Int) : Option (Int × S_multihopmade_Tape) :=
  bif (decide (a0.at_ ≥ (List.length a0.l : Int))) then
    some ((0, a0))
  else
    (idx a0.l a0.at_).bind fun e2 =>
    bif decide (a1 ≠ 0) then
      bif (decide ((Int.tmod e2 a1) < 0)) then
        (F_made_Tape_Next_j1 a0) (IntKind.wrap .i64 ((Int.tmod e2 a1) + a1))
      else
        (F_made_Tape_Next_j1 a0) (Int.tmod e2 a1)
    else none
set_option maxRecDepth 100000 in
set_option maxHeartbeats 40000000 in
theorem ok_made_Tape_Next (a0 : S_multihopmade_Tape) (a1 : Int) (r : Int × S_multihopmade_Tape) (h : F_made_Tape_Next a0 a1 = some r) : Con Try.prog 17 [.c (.box 1000000 0), .c (.lit (.int .i64 (a1)))] [(1000000, .box (S_multihopmade_Tape.cs a0))] (.c (.lit (.int .i64 (r.1)))) [(1000000, .box (S_multihopmade_Tape.cs r.2))] := by
  unfold F_made_Tape_Next at h
  refine con_of [] [(1000000, [2])] 41 Try.func17 rfl rfl (by kernel_rfl) (fun K => ?_)
  refine TS_go 6 ?_
  refine TS_draw (by kernel_rfl) ?_
  refine TD_go 10 ?_
  refine TD_end (by kernel_rfl) ?_
  replace h := condO h
  rcases h with ⟨hb1, h⟩ | ⟨hb1, h⟩
  · refine TS_know 15 (b := true) hb1 (by kernel_rfl) (by kernel_rfl) ?_
    refine TS_T (by kernel_rfl) rfl ?_
    refine TS_go 6 ?_
    have ret := Option.some.inj h
    subst ret
    exact TS_ret (by kernel_rfl) (by kernel_rfl) (by kernel_rfl)
  · refine TS_know 15 (b := false) hb1 (by kernel_rfl) (by kernel_rfl) ?_
    refine TS_F (by kernel_rfl) rfl ?_
    refine TS_go 2 ?_
    refine TS_draw (by kernel_rfl) ?_
    refine TD_go 8 ?_
    replace h := bindO h
    obtain ⟨e2, he2, h⟩ := h
    refine TD_idx (ecI .i64) he2 (by kernel_rfl) (by kernel_rfl) ?_
    refine TD_go 2 ?_
    replace h := chkO h
    obtain ⟨hc3, h⟩ := h
    refine TD_num (op := .rem) (k := .i64) (k' := .i64) (m := e2) (i := a1) (of_decide_eq_true hc3) rfl (by simp) (by kernel_rfl) (by kernel_rfl) ?_
    refine TD_go 1 ?_
    refine TD_end (by kernel_rfl) ?_
    refine TS_go 11 ?_
    refine TS_cut ⟨[(1, []), (5, [])], [(1000000, (1000000, []))]⟩ (.mk [.code (codeAt [1, 1, 1, 1] (bodyOf Try.f17))] .normal ⟨[(1, .c (.lit (.int .i64 (a1)))), (5, .c (.lit (.int .i64 (Int.tmod e2 a1))))], [(1000000, .box [.slc 1 0 (List.length a0.l) (List.map (ecI .i64) a0.l), .lit (.int .i64 (IntKind.wrap .i64 (a0.at_ + 1)))])]⟩) (by kernel_rfl) (by kernel_rfl) ?_
    refine TS_joinB ⟨[(5, [])], [(1000000, (1000000, []))]⟩ (fun (v4 : Int) => [(5, .c (.lit (.int .i64 (v4))))]) (fun (v4 : Int) => []) (F_made_Tape_Next_j1 a0) r ?_ ?_
    · clear h
      intro v4 h
      unfold F_made_Tape_Next_j1 at h
      refine TS_go 6 ?_
      have ret := Option.some.inj h
      subst ret
      exact TS_ret (by kernel_rfl) (by kernel_rfl) (by kernel_rfl)
    · refine TS_go 5 ?_
      replace h := condO h
      rcases h with ⟨hb5, h⟩ | ⟨hb5, h⟩
      · refine TS_know 36 (b := true) hb5 (by kernel_rfl) (by kernel_rfl) ?_
        refine TS_T (by kernel_rfl) rfl ?_
        refine TS_go 6 ?_
        exact TS_meet (IntKind.wrap .i64 ((Int.tmod e2 a1) + a1)) ⟨[(5, [])], [(1000000, (1000000, []))]⟩ h (by kernel_rfl) (by kernel_rfl)
      · refine TS_know 36 (b := false) hb5 (by kernel_rfl) (by kernel_rfl) ?_
        refine TS_F (by kernel_rfl) rfl ?_
        refine TS_go 1 ?_
        exact TS_meet (Int.tmod e2 a1) ⟨[(5, [])], [(1000000, (1000000, []))]⟩ h (by kernel_rfl) (by kernel_rfl)

/-- (*multihop/multihopmade.Tape).Bytes -/
noncomputable def F_made_Tape_Bytes_l1  (s3 : Int × S_multihopmade_Tape × (List Int)) : Option ((Int × S_multihopmade_Tape × (List Int)) ⊕ (S_multihopmade_Tape × (List Int))) :=
  bif (decide (s3.1 < (List.length s3.2.2 : Int))) then
    (F_made_Tape_Next s3.2.1 256).bind fun v7 =>
    (idx (Cut.app .whole s3.2.2) s3.1).bind fun _e8 =>
    (s3.2.2[(0 + Int.toNat s3.1)]?).bind fun _e9 =>
    some (Sum.inl (IntKind.wrap .i64 (s3.1 + 1), v7.2, (List.set s3.2.2 (0 + Int.toNat s3.1) (IntKind.wrap .u8 v7.1))))
  else
    some (Sum.inr (s3.2.1, s3.2.2))
noncomputable def F_made_Tape_Bytes (a0 : S_multihopmade_Tape) (a1 : Int) : Option ((List Int) × S_multihopmade_Tape) :=
  (F_made_Tape_Next a0 (IntKind.wrap .i64 (a1 + 1))).bind fun v1 =>
  (mkO 1 v1.1 v1.1).bind fun n2 =>
  (loopO (F_made_Tape_Bytes_l1) (0, v1.2, (List.replicate n2 (0 : Int)))).bind fun b4 =>
  some ((b4.2, b4.1))
set_option maxRecDepth 100000 in
set_option maxHeartbeats 40000000 in
theorem okT_made_Tape_Bytes (a0 : S_multihopmade_Tape) (a1 : Int) (r : (List Int) × S_multihopmade_Tape) (h : F_made_Tape_Bytes a0 a1 = some r) : Con Try.prog 30 [.c (.box 1000000 0), .c (.lit (.int .i64 (a1)))] [(1000000, .box (S_multihopmade_Tape.cs a0))] (.c (.slc 1 900002 (List.length r.1) (List.map (ecI .u8) r.1))) [(1000000, .box (S_multihopmade_Tape.cs r.2)), (900000, .spare 5 1 (List.length r.1))] := by
  unfold F_made_Tape_Bytes at h
  refine con_of [] [(1000000, [2]), (900000, [])] 25 Try.func30 rfl rfl (by kernel_rfl) (fun K => ?_)
  refine TS_go 9 ?_
  replace h := bindO h
  obtain ⟨v1, hv1, h⟩ := h
  refine TS_con [] [] (some (1000000, 0)) (ok_made_Tape_Next a0 (IntKind.wrap .i64 (a1 + 1)) v1 hv1) (by kernel_rfl) (by kernel_rfl) (by kernel_rfl) ?_
  replace h := bindO h
  obtain ⟨n2, hn2, h⟩ := h
  refine TS_makeR 11 5 1 (ecI .u8) (0 : Int) [] (cs := [.lit (.int .u8 (0))]) (l := v1.1) (c := v1.1) hn2 (by kernel_rfl) (by kernel_rfl) (by kernel_rfl) ?_
  refine TS_go 8 ?_
  refine TS_cut ⟨[(0, []), (5, []), (6, [])], [(1000000, (1000000, [])), (11, (11, []))]⟩ (.mk [.code (codeAt [1, 1, 0, 1, 0] (bodyOf Try.f30)), .blk 0, .code (codeAt [1, 1, 1] (bodyOf Try.f30))] .normal ⟨[(0, .c (.box 1000000 0)), (5, .c (.own 11)), (6, .c (.lit (.int .i64 (0))))], [(1000000, .box [.slc 1 0 (List.length v1.2.l) (List.map (ecI .i64) v1.2.l), .lit (.int .i64 (v1.2.at_))]), (11, .row 5 1 (List.length (List.replicate n2 (0 : Int))) (List.map (ecI .u8) (List.replicate n2 (0 : Int))))]⟩) (by kernel_rfl) (by kernel_rfl) ?_
  replace h := bindO h
  obtain ⟨y5, hl1, hK1⟩ := h
  refine TS_loopB (F_made_Tape_Bytes_l1) ⟨[(0, []), (5, []), (6, [])], [(1000000, (1000000, [])), (11, (11, []))]⟩ (fun (s3 : Int × S_multihopmade_Tape × (List Int)) => [(6, .c (.lit (.int .i64 (s3.1))))]) (fun (s3 : Int × S_multihopmade_Tape × (List Int)) => [(1000000, .box (S_multihopmade_Tape.cs s3.2.1)), (11, .row 5 1 (List.length s3.2.2) (List.map (ecI .u8) s3.2.2))]) (0, v1.2, (List.replicate n2 (0 : Int))) y5 (.exit 0) (fun (b : S_multihopmade_Tape × (List Int)) => b) ⟨[(5, [])], [(1000000, (1000000, [])), (11, (11, []))]⟩ (fun (b4 : S_multihopmade_Tape × (List Int)) => []) (fun (b4 : S_multihopmade_Tape × (List Int)) => [(1000000, .box (S_multihopmade_Tape.cs b4.1)), (11, .row 5 1 (List.length b4.2) (List.map (ecI .u8) b4.2))]) hl1 (by kernel_rfl) (by kernel_rfl) ?_ ?_
  · intro s3 x h hy1
    unfold F_made_Tape_Bytes_l1 at h
    refine TS_go 8 ?_
    replace h := condO h
    rcases h with ⟨hb6, h⟩ | ⟨hb6, h⟩
    · refine TS_know 15 (b := true) hb6 (by kernel_rfl) (by kernel_rfl) ?_
      refine TS_T (by kernel_rfl) rfl ?_
      refine TS_go 7 ?_
      replace h := bindO h
      obtain ⟨v7, hv7, h⟩ := h
      refine TS_con [] [] (some (1000000, 0)) (ok_made_Tape_Next s3.2.1 256 v7 hv7) (by kernel_rfl) (by kernel_rfl) (by kernel_rfl) ?_
      refine TS_go 1 ?_
      replace h := bindO h
      obtain ⟨_e8, he8, h⟩ := h
      refine TS_idxR 11 1 0 (ecI .u8) .whole he8 (by kernel_rfl) (by kernel_rfl) ?_
      replace h := bindO h
      obtain ⟨_e9, he9, h⟩ := h
      refine TS_stE 11 5 1 (List.length s3.2.2) (0 + Int.toNat s3.1) 0 (ecI .u8) (ds := [.lit (.int .u8 (IntKind.wrap .u8 v7.1))]) (IntKind.wrap .u8 v7.1) he9 (by kernel_rfl) (by kernel_rfl) (by kernel_rfl) (by kernel_rfl) ?_
      refine TS_go 7 ?_
      have ret := Option.some.inj h
      subst ret
      exact TS_againB _ ⟨[(0, []), (5, []), (6, [])], [(1000000, (1000000, [])), (11, (11, []))]⟩ rfl (by kernel_rfl) (by kernel_rfl)
    · refine TS_know 15 (b := false) hb6 (by kernel_rfl) (by kernel_rfl) ?_
      refine TS_F (by kernel_rfl) rfl ?_
      refine TS_go 2 ?_
      have ret := Option.some.inj h
      subst ret
      exact TS_brkB (s3.2.1, s3.2.2) ⟨[(5, [])], [(1000000, (1000000, [])), (11, (11, []))]⟩ rfl (by kernel_rfl) (by kernel_rfl) (by kernel_rfl)
  · intro b4 hb
    subst y5
    have h := hK1
    refine TS_go 6 ?_
    refine TS_settle 11 (by kernel_rfl) ?_
    refine TS_fitU ⟨[(4, [])], [(11, (900000, [])), (1000000, (1000000, []))]⟩ (by kernel_rfl) ?_
    refine TS_go 1 ?_
    have ret := Option.some.inj h
    subst ret
    exact TS_ret (by kernel_rfl) (by kernel_rfl) (by kernel_rfl)
/-- multihop/multihopref03.rot -/
noncomputable def F_ref03_rot (a0 : Int) (a1 : Int) : Option (Int) :=
  bif decide (0 ≤ a1) then
    bif decide (0 ≤ (IntKind.wrap .u64 (64 - a1))) then
      some (ior .u64 (ishl .u64 a0 a1) (ishr .u64 a0 (IntKind.wrap .u64 (64 - a1))))
    else none
  else none
/-- (multihop/multihopref03.state).round -/
noncomputable def F_ref03_state_round (a0 : S_multihopref03_state) : Option (S_multihopref03_state) :=
  (F_ref03_rot a0.b 13).bind fun v1 =>
  (F_ref03_rot (IntKind.wrap .u64 (a0.a + a0.b)) 32).bind fun v2 =>
  (F_ref03_rot a0.d 16).bind fun v3 =>
  (F_ref03_rot (ixor .u64 v3 (IntKind.wrap .u64 (a0.c + a0.d))) 21).bind fun v4 =>
  (F_ref03_rot (ixor .u64 v1 (IntKind.wrap .u64 (a0.a + a0.b))) 17).bind fun v5 =>
  (F_ref03_rot (IntKind.wrap .u64 ((IntKind.wrap .u64 (a0.c + a0.d)) + (ixor .u64 v1 (IntKind.wrap .u64 (a0.a + a0.b))))) 32).bind fun v6 =>
  some ((S_multihopref03_state.mk (IntKind.wrap .u64 (v2 + (ixor .u64 v3 (IntKind.wrap .u64 (a0.c + a0.d))))) (ixor .u64 v5 (IntKind.wrap .u64 ((IntKind.wrap .u64 (a0.c + a0.d)) + (ixor .u64 v1 (IntKind.wrap .u64 (a0.a + a0.b)))))) v6 (ixor .u64 v4 (IntKind.wrap .u64 (v2 + (ixor .u64 v3 (IntKind.wrap .u64 (a0.c + a0.d))))))))
/-- multihop/multihopref39.Valid -/
noncomputable def F_ref39_Valid (a0 : S_Settings) : Option (Bool) :=
  bif (decide (a0.Version < 0)) then
    some (false)
  else
    bif (decide (a0.Version > 1073741824)) then
      some (false)
    else
      bif (decide ((List.length a0.Data : Int) > 64)) then
        some (false)
      else
        bif (decide (a0.Version > 0)) then
          some (true)
        else
          bif ((List.length a0.Data : Int) == 0) then
            some ((arrEq 8 a0.Tag [0, 0, 0, 0, 0, 0, 0, 0]))
          else
            some (false)
/-- multihop/management.validNumber -/
noncomputable def F_management_validNumber (a0 : Int) : Option (Bool) :=
  bif (decide (a0 ≥ 0)) then
    some ((decide (a0 ≤ 1073741824)))
  else
    some (false)
set_option maxRecDepth 100000 in
set_option maxHeartbeats 40000000 in
theorem ok_management_validNumber (a0 : Int) (r : Bool) (h : F_management_validNumber a0 = some r) : Con Try.prog 51 [.c (.lit (.int .i64 (a0)))] [] (.c (.lit (.bool (r)))) [] := by
  unfold F_management_validNumber at h
  refine con_of [] [] 9 Try.func51 rfl rfl (by kernel_rfl) (fun K => ?_)
  refine TS_go 9 ?_
  replace h := condO h
  rcases h with ⟨hb1, h⟩ | ⟨hb1, h⟩
  · refine TS_know 4 (b := true) hb1 (by kernel_rfl) (by kernel_rfl) ?_
    refine TS_know 5 (b := true) hb1 (by kernel_rfl) (by kernel_rfl) ?_
    refine TS_go 6 ?_
    have ret := Option.some.inj h
    subst ret
    exact TS_ret (by kernel_rfl) (by kernel_rfl) (by kernel_rfl)
  · refine TS_know 4 (b := false) hb1 (by kernel_rfl) (by kernel_rfl) ?_
    refine TS_know 5 (b := false) hb1 (by kernel_rfl) (by kernel_rfl) ?_
    refine TS_go 6 ?_
    have ret := Option.some.inj h
    subst ret
    exact TS_ret (by kernel_rfl) (by kernel_rfl) (by kernel_rfl)

/-- multihop/management.noTag -/
noncomputable def F_management_noTag  : Option ((List Int)) :=
  some ([0, 0, 0, 0, 0, 0, 0, 0])
set_option maxRecDepth 100000 in
set_option maxHeartbeats 40000000 in
theorem ok_management_noTag  (r : (List Int)) (h : F_management_noTag  = some r) : Con Try.prog 52 [] [] (.agg (arrS .u8 8 r)) [] := by
  unfold F_management_noTag at h
  refine con_of [] [] 2 Try.func52 rfl rfl (by kernel_rfl) (fun K => ?_)
  refine TS_go 10 ?_
  have ret := Option.some.inj h
  subst ret
  exact TS_ret (by kernel_rfl) (by kernel_rfl) (by kernel_rfl)

/-- multihop/management.Valid -/
noncomputable def F_management_Valid (a0 : S_Settings) : Option (Bool) :=
  (F_management_validNumber a0.Version).bind fun v1 =>
  bif v1 then
    bif (decide ((List.length a0.Data : Int) > 64)) then
      some (false)
    else
      bif (a0.Version != 0) then
        some (true)
      else
        bif ((List.length a0.Data : Int) == 0) then
          (F_management_noTag ).bind fun v6 =>
          some ((arrEq 8 a0.Tag v6))
        else
          some (false)
  else
    some (false)
set_option maxRecDepth 100000 in
set_option maxHeartbeats 40000000 in
theorem ok_management_Valid (a0 : S_Settings) (r : Bool) (h : F_management_Valid a0 = some r) : Con Try.prog 22 [.agg (S_Settings.cs a0)] [] (.c (.lit (.bool (r)))) [] := by
  unfold F_management_Valid at h
  refine con_of [] [] 28 Try.func22 rfl rfl (by kernel_rfl) (fun K => ?_)
  refine TS_go 10 ?_
  replace h := bindO h
  obtain ⟨v1, hv1, h⟩ := h
  refine TS_call [] (ok_management_validNumber a0.Version v1 hv1) (by kernel_rfl) (by kernel_rfl) ?_
  refine TS_go 2 ?_
  replace h := condO h
  rcases h with ⟨hb2, h⟩ | ⟨hb2, h⟩
  · subst hb2
    refine TS_go 6 ?_
    replace h := condO h
    rcases h with ⟨hb3, h⟩ | ⟨hb3, h⟩
    · refine TS_know 11 (b := true) hb3 (by kernel_rfl) (by kernel_rfl) ?_
      refine TS_know 12 (b := true) hb3 (by kernel_rfl) (by kernel_rfl) ?_
      refine TS_T (by kernel_rfl) rfl ?_
      refine TS_go 6 ?_
      have ret := Option.some.inj h
      subst ret
      exact TS_ret (by kernel_rfl) (by kernel_rfl) (by kernel_rfl)
    · refine TS_know 11 (b := false) hb3 (by kernel_rfl) (by kernel_rfl) ?_
      refine TS_know 12 (b := false) hb3 (by kernel_rfl) (by kernel_rfl) ?_
      refine TS_F (by kernel_rfl) rfl ?_
      refine TS_go 2 ?_
      refine TS_draw (by kernel_rfl) ?_
      refine TD_go 3 ?_
      replace h := condO h
      rcases h with ⟨hb4, h⟩ | ⟨hb4, h⟩
      · refine TD_know 16 (b := true) hb4 trivial (by kernel_rfl) (by kernel_rfl) ?_
        refine TD_go 12 ?_
        refine TD_end (by kernel_rfl) ?_
        refine TS_go 1 ?_
        have ret := Option.some.inj h
        subst ret
        exact TS_ret (by kernel_rfl) (by kernel_rfl) (by kernel_rfl)
      · refine TD_know 16 (b := false) hb4 trivial (by kernel_rfl) (by kernel_rfl) ?_
        refine TD_go 4 ?_
        replace h := condO h
        rcases h with ⟨hb5, h⟩ | ⟨hb5, h⟩
        · refine TD_know 21 (b := true) hb5 trivial (by kernel_rfl) (by kernel_rfl) ?_
          refine TD_go 2 ?_
          replace h := bindO h
          obtain ⟨v6, hv6, h⟩ := h
          refine TD_call [] (ok_management_noTag  v6 hv6) (by kernel_rfl) (by kernel_rfl) ?_
          refine TD_go 4 ?_
          refine TD_end (by kernel_rfl) ?_
          refine TS_go 1 ?_
          have ret := Option.some.inj h
          subst ret
          exact TS_ret (by kernel_rfl) (by kernel_rfl) (by kernel_rfl)
        · refine TD_know 21 (b := false) hb5 trivial (by kernel_rfl) (by kernel_rfl) ?_
          refine TD_go 7 ?_
          refine TD_end (by kernel_rfl) ?_
          refine TS_go 1 ?_
          have ret := Option.some.inj h
          subst ret
          exact TS_ret (by kernel_rfl) (by kernel_rfl) (by kernel_rfl)
  · subst hb2
    refine TS_go 6 ?_
    refine TS_T (by kernel_rfl) rfl ?_
    refine TS_go 6 ?_
    have ret := Option.some.inj h
    subst ret
    exact TS_ret (by kernel_rfl) (by kernel_rfl) (by kernel_rfl)

/-- multihop/octets.Append -/
noncomputable def F_octets_Append_l2 (v1 : Int) (a0 : List Int) (a1 : Int) (s3 : Int × (List Int)) : Option ((Int × (List Int)) ⊕ ((List Int))) :=
  bif (decide (s3.1 < v1)) then
    bif decide (0 ≤ (IntKind.wrap .i64 (8 * (IntKind.wrap .i64 ((IntKind.wrap .i64 (v1 - 1)) - s3.1))))) then
      (idx (Cut.app .whole s3.2) (IntKind.wrap .i64 ((List.length a0 : Int) + s3.1))).bind fun _e8 =>
      (s3.2[(0 + Int.toNat (IntKind.wrap .i64 ((List.length a0 : Int) + s3.1)))]?).bind fun _e9 =>
      some (Sum.inl (IntKind.wrap .i64 (s3.1 + 1), (List.set s3.2 (0 + Int.toNat (IntKind.wrap .i64 ((List.length a0 : Int) + s3.1))) (IntKind.wrap .u8 (ishr .u64 a1 (IntKind.wrap .i64 (8 * (IntKind.wrap .i64 ((IntKind.wrap .i64 (v1 - 1)) - s3.1)))))))))
    else none
  else
    some (Sum.inr s3.2)
noncomputable def F_octets_Append_j1 (a0 : List Int) (a1 : Int) (v1 : Int) : Option ((List Int)) :=
  (mkO 1 (IntKind.wrap .i64 ((List.length a0 : Int) + v1)) (IntKind.wrap .i64 ((List.length a0 : Int) + v1))).bind fun n2 =>
  (loopO (F_octets_Append_l2 v1 a0 a1) (0, (cpL (List.replicate n2 (0 : Int)) 0 (List.length (Cut.app .whole (List.replicate n2 (0 : Int)))) (Cut.app .whole a0)))).bind fun b4 =>
  some (b4)
noncomputable def F_octets_Append (a0 : List Int) (a1 : Int) (a2 : Int) : Option ((List Int)) :=
  bif (decide (a2 < 0)) then
    (F_octets_Append_j1 a0 a1) 0
  else
    bif (decide (a2 > 8)) then
      (F_octets_Append_j1 a0 a1) 0
    else
      (F_octets_Append_j1 a0 a1) a2
set_option maxRecDepth 100000 in
set_option maxHeartbeats 40000000 in
theorem okT_octets_Append (a0 : List Int) (a1 : Int) (a2 : Int) (r : (List Int)) (h : F_octets_Append a0 a1 a2 = some r) : Con Try.prog 62 [.c (eS 1 (ecI .u8) (a0)), .c (.lit (.int .u64 (a1))), .c (.lit (.int .i64 (a2)))] [] (.c (.slc 1 900002 (List.length r) (List.map (ecI .u8) r))) [(900000, .spare 5 1 (List.length r))] := by
  unfold F_octets_Append at h
  refine con_of [] [(900000, [])] 43 Try.func62 rfl rfl (by kernel_rfl) (fun K => ?_)
  refine TS_go 4 ?_
  refine TS_cut ⟨[(0, []), (1, []), (2, [])], []⟩ (.mk [.code (codeAt [1] (bodyOf Try.f62))] .normal ⟨[(0, .c (.slc 1 0 (List.length a0) (List.map (ecI .u8) a0))), (1, .c (.lit (.int .u64 (a1)))), (2, .c (.lit (.int .i64 (a2))))], []⟩) (by kernel_rfl) (by kernel_rfl) ?_
  refine TS_joinB ⟨[(0, []), (1, []), (2, [])], []⟩ (fun (v1 : Int) => [(2, .c (.lit (.int .i64 (v1))))]) (fun (v1 : Int) => []) (F_octets_Append_j1 a0 a1) r ?_ ?_
  · clear h
    intro v1 h
    unfold F_octets_Append_j1 at h
    refine TS_go 6 ?_
    replace h := bindO h
    obtain ⟨n2, hn2, h⟩ := h
    refine TS_makeR 19 5 1 (ecI .u8) (0 : Int) [] (cs := [.lit (.int .u8 (0))]) (l := IntKind.wrap .i64 ((List.length a0 : Int) + v1)) (c := IntKind.wrap .i64 ((List.length a0 : Int) + v1)) hn2 (by kernel_rfl) (by kernel_rfl) (by kernel_rfl) ?_
    refine TS_go 6 ?_
    refine TS_cpR 19 5 1 (List.length (List.replicate n2 (0 : Int))) 0 (ecI .u8) (fun _ => by kernel_rfl) (l := (List.replicate n2 (0 : Int))) (l2 := a0) .whole .whole (by kernel_rfl) (by kernel_rfl) ?_
    refine TS_go 8 ?_
    refine TS_cut ⟨[(0, []), (1, []), (2, []), (7, []), (23, []), (24, [])], [(19, (19, []))]⟩ (.mk [.code (codeAt [1, 1, 1, 1, 0, 1, 0] (bodyOf Try.f62)), .blk 0, .code (codeAt [1, 1, 1, 1, 1] (bodyOf Try.f62))] .normal ⟨[(0, .c (.slc 1 0 (List.length a0) (List.map (ecI .u8) a0))), (1, .c (.lit (.int .u64 (a1)))), (2, .c (.lit (.int .i64 (v1)))), (7, .c (.own 19)), (23, .c (.lit (.int .i64 (v1)))), (24, .c (.lit (.int .i64 (0))))], [(19, .row 5 1 (List.length (cpL (List.replicate n2 (0 : Int)) 0 (List.length (Cut.app .whole (List.replicate n2 (0 : Int)))) (Cut.app .whole a0))) (List.map (ecI .u8) (cpL (List.replicate n2 (0 : Int)) 0 (List.length (Cut.app .whole (List.replicate n2 (0 : Int)))) (Cut.app .whole a0))))]⟩) (by kernel_rfl) (by kernel_rfl) ?_
    replace h := bindO h
    obtain ⟨y5, hl2, hK2⟩ := h
    refine TS_loopB (F_octets_Append_l2 v1 a0 a1) ⟨[(0, []), (1, []), (2, []), (7, []), (23, []), (24, [])], [(19, (19, []))]⟩ (fun (s3 : Int × (List Int)) => [(24, .c (.lit (.int .i64 (s3.1))))]) (fun (s3 : Int × (List Int)) => [(19, .row 5 1 (List.length s3.2) (List.map (ecI .u8) s3.2))]) (0, (cpL (List.replicate n2 (0 : Int)) 0 (List.length (Cut.app .whole (List.replicate n2 (0 : Int)))) (Cut.app .whole a0))) y5 (.exit 0) (fun (b : (List Int)) => b) ⟨[(7, [])], [(19, (19, []))]⟩ (fun (b4 : (List Int)) => []) (fun (b4 : (List Int)) => [(19, .row 5 1 (List.length b4) (List.map (ecI .u8) b4))]) hl2 (by kernel_rfl) (by kernel_rfl) ?_ ?_
    · intro s3 x h hy2
      unfold F_octets_Append_l2 at h
      refine TS_go 5 ?_
      replace h := condO h
      rcases h with ⟨hb6, h⟩ | ⟨hb6, h⟩
      · refine TS_know 25 (b := true) hb6 (by kernel_rfl) (by kernel_rfl) ?_
        refine TS_T (by kernel_rfl) rfl ?_
        refine TS_go 20 ?_
        replace h := chkO h
        obtain ⟨hc7, h⟩ := h
        refine TS_num (op := .shr) (k := .u64) (k' := .i64) (m := a1) (i := IntKind.wrap .i64 (8 * (IntKind.wrap .i64 ((IntKind.wrap .i64 (v1 - 1)) - s3.1)))) (of_decide_eq_true hc7) rfl (by simp) (by kernel_rfl) (by kernel_rfl) ?_
        refine TS_go 1 ?_
        replace h := bindO h
        obtain ⟨_e8, he8, h⟩ := h
        refine TS_idxR 19 1 0 (ecI .u8) .whole he8 (by kernel_rfl) (by kernel_rfl) ?_
        replace h := bindO h
        obtain ⟨_e9, he9, h⟩ := h
        refine TS_stE 19 5 1 (List.length s3.2) (0 + Int.toNat (IntKind.wrap .i64 ((List.length a0 : Int) + s3.1))) 0 (ecI .u8) (ds := [.lit (.int .u8 (IntKind.wrap .u8 (ishr .u64 a1 (IntKind.wrap .i64 (8 * (IntKind.wrap .i64 ((IntKind.wrap .i64 (v1 - 1)) - s3.1)))))))]) (IntKind.wrap .u8 (ishr .u64 a1 (IntKind.wrap .i64 (8 * (IntKind.wrap .i64 ((IntKind.wrap .i64 (v1 - 1)) - s3.1)))))) he9 (by kernel_rfl) (by kernel_rfl) (by kernel_rfl) (by kernel_rfl) ?_
        refine TS_go 6 ?_
        have ret := Option.some.inj h
        subst ret
        exact TS_againB _ ⟨[(0, []), (1, []), (2, []), (7, []), (23, []), (24, [])], [(19, (19, []))]⟩ rfl (by kernel_rfl) (by kernel_rfl)
      · refine TS_know 25 (b := false) hb6 (by kernel_rfl) (by kernel_rfl) ?_
        refine TS_F (by kernel_rfl) rfl ?_
        refine TS_go 2 ?_
        have ret := Option.some.inj h
        subst ret
        exact TS_brkB s3.2 ⟨[(7, [])], [(19, (19, []))]⟩ rfl (by kernel_rfl) (by kernel_rfl) (by kernel_rfl)
    · intro b4 hb
      subst y5
      have h := hK2
      refine TS_go 6 ?_
      refine TS_settle 19 (by kernel_rfl) ?_
      refine TS_fitU ⟨[(6, [])], [(19, (900000, []))]⟩ (by kernel_rfl) ?_
      refine TS_go 1 ?_
      have ret := Option.some.inj h
      subst ret
      exact TS_ret (by kernel_rfl) (by kernel_rfl) (by kernel_rfl)
  · refine TS_go 5 ?_
    replace h := condO h
    rcases h with ⟨hb11, h⟩ | ⟨hb11, h⟩
    · refine TS_know 10 (b := true) hb11 (by kernel_rfl) (by kernel_rfl) ?_
      refine TS_know 11 (b := true) hb11 (by kernel_rfl) (by kernel_rfl) ?_
      refine TS_go 4 ?_
      refine TS_T (by kernel_rfl) rfl ?_
      refine TS_go 3 ?_
      exact TS_meet 0 ⟨[(0, []), (1, []), (2, [])], []⟩ h (by kernel_rfl) (by kernel_rfl)
    · refine TS_know 10 (b := false) hb11 (by kernel_rfl) (by kernel_rfl) ?_
      refine TS_know 11 (b := false) hb11 (by kernel_rfl) (by kernel_rfl) ?_
      refine TS_go 4 ?_
      replace h := condO h
      rcases h with ⟨hb12, h⟩ | ⟨hb12, h⟩
      · refine TS_know 13 (b := true) hb12 (by kernel_rfl) (by kernel_rfl) ?_
        refine TS_know 14 (b := true) hb12 (by kernel_rfl) (by kernel_rfl) ?_
        refine TS_T (by kernel_rfl) rfl ?_
        refine TS_go 3 ?_
        exact TS_meet 0 ⟨[(0, []), (1, []), (2, [])], []⟩ h (by kernel_rfl) (by kernel_rfl)
      · refine TS_know 13 (b := false) hb12 (by kernel_rfl) (by kernel_rfl) ?_
        refine TS_know 14 (b := false) hb12 (by kernel_rfl) (by kernel_rfl) ?_
        refine TS_F (by kernel_rfl) rfl ?_
        refine TS_go 1 ?_
        exact TS_meet a2 ⟨[(0, []), (1, []), (2, [])], []⟩ h (by kernel_rfl) (by kernel_rfl)
/-- multihop/siphash.little -/
noncomputable def F_siphash_little_l1 (a0 : List Int) (s1 : Int × Int) : Option ((Int × Int) ⊕ (Int)) :=
  bif (decide (s1.2 < (List.length a0 : Int))) then
    (idx a0 s1.2).bind fun e5 =>
    bif decide (0 ≤ (IntKind.wrap .i64 (8 * s1.2))) then
      some (Sum.inl (ior .u64 s1.1 (ishl .u64 (IntKind.wrap .u64 e5) (IntKind.wrap .i64 (8 * s1.2))), IntKind.wrap .i64 (s1.2 + 1)))
    else none
  else
    some (Sum.inr s1.1)
noncomputable def F_siphash_little (a0 : List Int) : Option (Int) :=
  (loopO (F_siphash_little_l1 a0) (0, 0)).bind fun b2 =>
  some (b2)
set_option maxRecDepth 100000 in
set_option maxHeartbeats 40000000 in
theorem ok_siphash_little (a0 : List Int) (r : Int) (h : F_siphash_little a0 = some r) : Con Try.prog 82 [.c (eS 1 (ecI .u8) (a0))] [] (.c (.lit (.int .u64 (r)))) [] := by
  unfold F_siphash_little at h
  refine con_of [] [] 22 Try.func82 rfl rfl (by kernel_rfl) (fun K => ?_)
  refine TS_go 16 ?_
  refine TS_cut ⟨[(3, []), (6, []), (7, []), (8, [])], []⟩ (.mk [.code (codeAt [1, 1, 0, 1, 0] (bodyOf Try.f82)), .blk 0, .code (codeAt [1, 1, 1] (bodyOf Try.f82))] .normal ⟨[(3, .c (.lit (.int .u64 (0)))), (6, .c (.slc 1 0 (List.length a0) (List.map (ecI .u8) a0))), (7, .c (.lit (.int .i64 ((List.length a0 : Int))))), (8, .c (.lit (.int .i64 (0))))], []⟩) (by kernel_rfl) (by kernel_rfl) ?_
  replace h := bindO h
  obtain ⟨y3, hl1, hK1⟩ := h
  refine TS_loopB (F_siphash_little_l1 a0) ⟨[(3, []), (6, []), (7, []), (8, [])], []⟩ (fun (s1 : Int × Int) => [(3, .c (.lit (.int .u64 (s1.1)))), (8, .c (.lit (.int .i64 (s1.2))))]) (fun (s1 : Int × Int) => []) (0, 0) y3 (.exit 0) (fun (b : Int) => b) ⟨[(3, [])], []⟩ (fun (b2 : Int) => [(3, .c (.lit (.int .u64 (b2))))]) (fun (b2 : Int) => []) hl1 (by kernel_rfl) (by kernel_rfl) ?_ ?_
  · intro s1 x h hy1
    unfold F_siphash_little_l1 at h
    refine TS_go 5 ?_
    replace h := condO h
    rcases h with ⟨hb4, h⟩ | ⟨hb4, h⟩
    · refine TS_know 9 (b := true) hb4 (by kernel_rfl) (by kernel_rfl) ?_
      refine TS_T (by kernel_rfl) rfl ?_
      refine TS_go 6 ?_
      replace h := bindO h
      obtain ⟨e5, he5, h⟩ := h
      refine TS_idx (ecI .u8) he5 (by kernel_rfl) (by kernel_rfl) ?_
      refine TS_go 10 ?_
      replace h := chkO h
      obtain ⟨hc6, h⟩ := h
      refine TS_num (op := .shl) (k := .u64) (k' := .i64) (m := IntKind.wrap .u64 e5) (i := IntKind.wrap .i64 (8 * s1.2)) (of_decide_eq_true hc6) rfl (by simp) (by kernel_rfl) (by kernel_rfl) ?_
      refine TS_go 8 ?_
      have ret := Option.some.inj h
      subst ret
      exact TS_againB _ ⟨[(3, []), (6, []), (7, []), (8, [])], []⟩ rfl (by kernel_rfl) (by kernel_rfl)
    · refine TS_know 9 (b := false) hb4 (by kernel_rfl) (by kernel_rfl) ?_
      refine TS_F (by kernel_rfl) rfl ?_
      refine TS_go 2 ?_
      have ret := Option.some.inj h
      subst ret
      exact TS_brkB s1.1 ⟨[(3, [])], []⟩ rfl (by kernel_rfl) (by kernel_rfl) (by kernel_rfl)
  · intro b2 hb
    subst y3
    have h := hK1
    refine TS_go 7 ?_
    have ret := Option.some.inj h
    subst ret
    exact TS_ret (by kernel_rfl) (by kernel_rfl) (by kernel_rfl)

/-- math/bits.RotateLeft64 -/
noncomputable def F_math_bits_RotateLeft64 (a0 : Int) (a1 : Int) : Option (Int) :=
  bif decide (0 ≤ (iand .u64 (IntKind.wrap .u64 a1) 63)) then
    bif decide (0 ≤ (IntKind.wrap .u64 (64 - (iand .u64 (IntKind.wrap .u64 a1) 63)))) then
      some (ior .u64 (ishl .u64 a0 (iand .u64 (IntKind.wrap .u64 a1) 63)) (ishr .u64 a0 (IntKind.wrap .u64 (64 - (iand .u64 (IntKind.wrap .u64 a1) 63)))))
    else none
  else none
set_option maxRecDepth 100000 in
set_option maxHeartbeats 40000000 in
theorem ok_math_bits_RotateLeft64 (a0 : Int) (a1 : Int) (r : Int) (h : F_math_bits_RotateLeft64 a0 a1 = some r) : Con Try.prog 88 [.c (.lit (.int .u64 (a0))), .c (.lit (.int .i64 (a1)))] [] (.c (.lit (.int .u64 (r)))) [] := by
  unfold F_math_bits_RotateLeft64 at h
  refine con_of [] [] 17 Try.func88 rfl rfl (by kernel_rfl) (fun K => ?_)
  refine TS_go 15 ?_
  replace h := chkO h
  obtain ⟨hc1, h⟩ := h
  refine TS_num (op := .shl) (k := .u64) (k' := .u64) (m := a0) (i := iand .u64 (IntKind.wrap .u64 a1) 63) (of_decide_eq_true hc1) rfl (by simp) (by kernel_rfl) (by kernel_rfl) ?_
  refine TS_go 3 ?_
  replace h := chkO h
  obtain ⟨hc2, h⟩ := h
  refine TS_num (op := .shr) (k := .u64) (k' := .u64) (m := a0) (i := IntKind.wrap .u64 (64 - (iand .u64 (IntKind.wrap .u64 a1) 63))) (of_decide_eq_true hc2) rfl (by simp) (by kernel_rfl) (by kernel_rfl) ?_
  refine TS_go 4 ?_
  have ret := Option.some.inj h
  subst ret
  exact TS_ret (by kernel_rfl) (by kernel_rfl) (by kernel_rfl)

/-- (multihop/siphash.state).rounds -/
noncomputable def F_siphash_state_rounds_l1 (a1 : Int) (s1 : Int × (List Int)) : Option ((Int × (List Int)) ⊕ ((List Int))) :=
  bif (decide (s1.1 < a1)) then
    (F_math_bits_RotateLeft64 (s1.2.getD 1 0) 13).bind fun v5 =>
    (F_math_bits_RotateLeft64 (IntKind.wrap .u64 ((s1.2.getD 0 0) + (s1.2.getD 1 0))) 32).bind fun v6 =>
    (F_math_bits_RotateLeft64 (s1.2.getD 3 0) 16).bind fun v7 =>
    (F_math_bits_RotateLeft64 (ixor .u64 v7 (IntKind.wrap .u64 ((s1.2.getD 2 0) + (s1.2.getD 3 0)))) 21).bind fun v8 =>
    (F_math_bits_RotateLeft64 (ixor .u64 v5 (IntKind.wrap .u64 ((s1.2.getD 0 0) + (s1.2.getD 1 0)))) 17).bind fun v9 =>
    (F_math_bits_RotateLeft64 (IntKind.wrap .u64 ((IntKind.wrap .u64 ((s1.2.getD 2 0) + (s1.2.getD 3 0))) + (ixor .u64 v5 (IntKind.wrap .u64 ((s1.2.getD 0 0) + (s1.2.getD 1 0)))))) 32).bind fun v10 =>
    some (Sum.inl (IntKind.wrap .i64 (s1.1 + 1), [IntKind.wrap .u64 (v6 + (ixor .u64 v7 (IntKind.wrap .u64 ((s1.2.getD 2 0) + (s1.2.getD 3 0))))), ixor .u64 v9 (IntKind.wrap .u64 ((IntKind.wrap .u64 ((s1.2.getD 2 0) + (s1.2.getD 3 0))) + (ixor .u64 v5 (IntKind.wrap .u64 ((s1.2.getD 0 0) + (s1.2.getD 1 0)))))), v10, ixor .u64 v8 (IntKind.wrap .u64 (v6 + (ixor .u64 v7 (IntKind.wrap .u64 ((s1.2.getD 2 0) + (s1.2.getD 3 0))))))]))
  else
    some (Sum.inr s1.2)
noncomputable def F_siphash_state_rounds (a0 : List Int) (a1 : Int) : Option ((List Int)) :=
  (loopO (F_siphash_state_rounds_l1 a1) (0, a0)).bind fun b2 =>
  some (b2)
set_option maxRecDepth 100000 in
set_option maxHeartbeats 40000000 in
theorem ok_siphash_state_rounds (a0 : List Int) (a1 : Int) (r : (List Int)) (h : F_siphash_state_rounds a0 a1 = some r) : Con Try.prog 84 [.agg (arrS .u64 4 a0), .c (.lit (.int .i64 (a1)))] [] (.agg (arrS .u64 4 r)) [] := by
  unfold F_siphash_state_rounds at h
  refine con_of [] [] 82 Try.func84 rfl rfl (by kernel_rfl) (fun K => ?_)
  refine TS_go 12 ?_
  refine TS_cut ⟨[(2, []), (4, []), (5, []), (6, [])], [(2, (2, [])), (4, (4, []))]⟩ (.mk [.code (codeAt [1, 0, 1, 0] (bodyOf Try.f84)), .blk 0, .code (codeAt [1, 1] (bodyOf Try.f84))] .normal ⟨[(2, .c (.box 2 0)), (4, .c (.box 4 0)), (5, .c (.lit (.int .i64 (a1)))), (6, .c (.lit (.int .i64 (0))))], [(2, .box [.lit (.int .u64 ((a0.getD 0 0))), .lit (.int .u64 ((a0.getD 1 0))), .lit (.int .u64 ((a0.getD 2 0))), .lit (.int .u64 ((a0.getD 3 0)))]), (4, .box [.lit (.int .u64 (0)), .lit (.int .u64 (0)), .lit (.int .u64 (0)), .lit (.int .u64 (0))])]⟩) (by kernel_rfl) (by kernel_rfl) ?_
  replace h := bindO h
  obtain ⟨y3, hl1, hK1⟩ := h
  refine TS_loopB (F_siphash_state_rounds_l1 a1) ⟨[(2, []), (4, []), (5, []), (6, [])], [(2, (2, [])), (4, (4, []))]⟩ (fun (s1 : Int × (List Int)) => [(6, .c (.lit (.int .i64 (s1.1))))]) (fun (s1 : Int × (List Int)) => [(2, .box (arrS .u64 4 s1.2))]) (0, a0) y3 (.exit 0) (fun (b : (List Int)) => b) ⟨[(2, []), (4, [])], [(2, (2, [])), (4, (4, []))]⟩ (fun (b2 : (List Int)) => []) (fun (b2 : (List Int)) => [(2, .box (arrS .u64 4 b2))]) hl1 (by kernel_rfl) (by kernel_rfl) ?_ ?_
  · intro s1 x h hy1
    unfold F_siphash_state_rounds_l1 at h
    refine TS_go 5 ?_
    replace h := condO h
    rcases h with ⟨hb4, h⟩ | ⟨hb4, h⟩
    · refine TS_know 7 (b := true) hb4 (by kernel_rfl) (by kernel_rfl) ?_
      refine TS_T (by kernel_rfl) rfl ?_
      refine TS_go 17 ?_
      replace h := bindO h
      obtain ⟨v5, hv5, h⟩ := h
      refine TS_call [] (ok_math_bits_RotateLeft64 (s1.2.getD 1 0) 13 v5 hv5) (by kernel_rfl) (by kernel_rfl) ?_
      refine TS_go 17 ?_
      replace h := bindO h
      obtain ⟨v6, hv6, h⟩ := h
      refine TS_call [] (ok_math_bits_RotateLeft64 (IntKind.wrap .u64 ((s1.2.getD 0 0) + (s1.2.getD 1 0))) 32 v6 hv6) (by kernel_rfl) (by kernel_rfl) ?_
      refine TS_go 17 ?_
      replace h := bindO h
      obtain ⟨v7, hv7, h⟩ := h
      refine TS_call [] (ok_math_bits_RotateLeft64 (s1.2.getD 3 0) 16 v7 hv7) (by kernel_rfl) (by kernel_rfl) ?_
      refine TS_go 27 ?_
      replace h := bindO h
      obtain ⟨v8, hv8, h⟩ := h
      refine TS_call [] (ok_math_bits_RotateLeft64 (ixor .u64 v7 (IntKind.wrap .u64 ((s1.2.getD 2 0) + (s1.2.getD 3 0)))) 21 v8 hv8) (by kernel_rfl) (by kernel_rfl) ?_
      refine TS_go 27 ?_
      replace h := bindO h
      obtain ⟨v9, hv9, h⟩ := h
      refine TS_call [] (ok_math_bits_RotateLeft64 (ixor .u64 v5 (IntKind.wrap .u64 ((s1.2.getD 0 0) + (s1.2.getD 1 0)))) 17 v9 hv9) (by kernel_rfl) (by kernel_rfl) ?_
      refine TS_go 16 ?_
      replace h := bindO h
      obtain ⟨v10, hv10, h⟩ := h
      refine TS_call [] (ok_math_bits_RotateLeft64 (IntKind.wrap .u64 ((IntKind.wrap .u64 ((s1.2.getD 2 0) + (s1.2.getD 3 0))) + (ixor .u64 v5 (IntKind.wrap .u64 ((s1.2.getD 0 0) + (s1.2.getD 1 0)))))) 32 v10 hv10) (by kernel_rfl) (by kernel_rfl) ?_
      refine TS_go 8 ?_
      have ret := Option.some.inj h
      subst ret
      exact TS_againB _ ⟨[(2, []), (4, []), (5, []), (6, [])], [(2, (2, [])), (4, (4, []))]⟩ rfl (by kernel_rfl) (by kernel_rfl)
    · refine TS_know 7 (b := false) hb4 (by kernel_rfl) (by kernel_rfl) ?_
      refine TS_F (by kernel_rfl) rfl ?_
      refine TS_go 2 ?_
      have ret := Option.some.inj h
      subst ret
      exact TS_brkB s1.2 ⟨[(2, []), (4, [])], [(2, (2, [])), (4, (4, []))]⟩ rfl (by kernel_rfl) (by kernel_rfl) (by kernel_rfl)
  · intro b2 hb
    subst y3
    have h := hK1
    refine TS_go 7 ?_
    have ret := Option.some.inj h
    subst ret
    exact TS_ret (by kernel_rfl) (by kernel_rfl) (by kernel_rfl)

/-- (multihop/siphash.state).mix -/
noncomputable def F_siphash_state_mix (a0 : List Int) (a1 : Int) : Option ((List Int)) :=
  (F_siphash_state_rounds [(a0.getD 0 0), (a0.getD 1 0), (a0.getD 2 0), ixor .u64 (a0.getD 3 0) a1] 2).bind fun v1 =>
  some ([ixor .u64 (v1.getD 0 0) a1, (v1.getD 1 0), (v1.getD 2 0), (v1.getD 3 0)])
set_option maxRecDepth 100000 in
set_option maxHeartbeats 40000000 in
theorem ok_siphash_state_mix (a0 : List Int) (a1 : Int) (r : (List Int)) (h : F_siphash_state_mix a0 a1 = some r) : Con Try.prog 83 [.agg (arrS .u64 4 a0), .c (.lit (.int .u64 (a1)))] [] (.agg (arrS .u64 4 r)) [] := by
  unfold F_siphash_state_mix at h
  refine con_of [] [] 18 Try.func83 rfl rfl (by kernel_rfl) (fun K => ?_)
  refine TS_go 17 ?_
  replace h := bindO h
  obtain ⟨v1, hv1, h⟩ := h
  refine TS_call [] (ok_siphash_state_rounds [(a0.getD 0 0), (a0.getD 1 0), (a0.getD 2 0), ixor .u64 (a0.getD 3 0) a1] 2 v1 hv1) (by kernel_rfl) (by kernel_rfl) ?_
  refine TS_go 17 ?_
  have ret := Option.some.inj h
  subst ret
  exact TS_ret (by kernel_rfl) (by kernel_rfl) (by kernel_rfl)

/-- multihop/siphash.Sum -/
noncomputable def F_siphash_Sum_l1 (a1 : List Int) (s3 : Int × (List Int)) : Option ((Int × (List Int)) ⊕ ((List Int))) :=
  bif (decide (s3.1 < (iquo .i64 (List.length a1 : Int) 8))) then
    (subO a1 (IntKind.wrap .i64 (8 * s3.1)) (IntKind.wrap .i64 ((IntKind.wrap .i64 (8 * s3.1)) + 8))).bind fun l7 =>
    (F_siphash_little l7).bind fun v8 =>
    (F_siphash_state_mix s3.2 v8).bind fun v9 =>
    some (Sum.inl (IntKind.wrap .i64 (s3.1 + 1), v9))
  else
    some (Sum.inr s3.2)
noncomputable def F_siphash_Sum (a0 : List Int) (a1 : List Int) : Option (Int) :=
  (F_siphash_little (arrL 8 a0)).bind fun v1 =>
  (F_siphash_little ([(a0.getD 8 0), (a0.getD 9 0), (a0.getD 10 0), (a0.getD 11 0), (a0.getD 12 0), (a0.getD 13 0), (a0.getD 14 0), (a0.getD 15 0)] : List Int)).bind fun v2 =>
  (loopO (F_siphash_Sum_l1 a1) (0, [ixor .u64 v1 8317987319222330741, ixor .u64 v2 7237128888997146477, ixor .u64 v1 7816392313619706465, ixor .u64 v2 8387220255154660723])).bind fun b4 =>
  (subO a1 (IntKind.wrap .i64 (8 * (iquo .i64 (List.length a1 : Int) 8))) (List.length a1 : Int)).bind fun l11 =>
  (F_siphash_little l11).bind fun v12 =>
  (F_siphash_state_mix b4 (ior .u64 v12 (ishl .u64 (IntKind.wrap .u64 (List.length a1 : Int)) 56))).bind fun v13 =>
  (F_siphash_state_rounds [(v13.getD 0 0), (v13.getD 1 0), ixor .u64 (v13.getD 2 0) 255, (v13.getD 3 0)] 4).bind fun v14 =>
  some (ixor .u64 (ixor .u64 (ixor .u64 (v14.getD 0 0) (v14.getD 1 0)) (v14.getD 2 0)) (v14.getD 3 0))
set_option maxRecDepth 100000 in
set_option maxHeartbeats 40000000 in
theorem ok_siphash_Sum (a0 : List Int) (a1 : List Int) (r : Int) (h : F_siphash_Sum a0 a1 = some r) : Con Try.prog 75 [.agg (arrS .u8 16 a0), .c (eS 1 (ecI .u8) (a1))] [] (.c (.lit (.int .u64 (r)))) [] := by
  unfold F_siphash_Sum at h
  refine con_of [] [] 70 Try.func75 rfl rfl (by kernel_rfl) (fun K => ?_)
  refine TS_go 6 ?_
  refine TS_draw (by kernel_rfl) ?_
  refine TD_win 2 0 16 (a := 0) (b := 8) (by decide) (by decide) (by kernel_rfl) (by kernel_rfl) ?_
  replace h := bindO h
  obtain ⟨v1, hv1, h⟩ := h
  refine TD_callF [] (ok_siphash_little (arrL 8 a0) v1 hv1) (by kernel_rfl) (by kernel_rfl) ?_
  refine TD_win 2 0 16 (a := 8) (b := 16) (by decide) (by decide) (by kernel_rfl) (by kernel_rfl) ?_
  replace h := bindO h
  obtain ⟨v2, hv2, h⟩ := h
  refine TD_callF [] (ok_siphash_little ([(a0.getD 8 0), (a0.getD 9 0), (a0.getD 10 0), (a0.getD 11 0), (a0.getD 12 0), (a0.getD 13 0), (a0.getD 14 0), (a0.getD 15 0)] : List Int) v2 hv2) (by kernel_rfl) (by kernel_rfl) ?_
  refine TD_go 2 ?_
  refine TD_end (by kernel_rfl) ?_
  refine TS_go 28 ?_
  refine TS_cut ⟨[(1, []), (7, []), (8, []), (26, []), (27, [])], [(7, (7, []))]⟩ (.mk [.code (codeAt [1, 1, 1, 1, 0, 1, 0] (bodyOf Try.f75)), .blk 0, .code (codeAt [1, 1, 1, 1, 1] (bodyOf Try.f75))] .normal ⟨[(1, .c (.slc 1 0 (List.length a1) (List.map (ecI .u8) a1))), (7, .c (.box 7 0)), (8, .c (.lit (.int .i64 (iquo .i64 (List.length a1 : Int) 8)))), (26, .c (.lit (.int .i64 (iquo .i64 (List.length a1 : Int) 8)))), (27, .c (.lit (.int .i64 (0))))], [(7, .box [.lit (.int .u64 (ixor .u64 v1 8317987319222330741)), .lit (.int .u64 (ixor .u64 v2 7237128888997146477)), .lit (.int .u64 (ixor .u64 v1 7816392313619706465)), .lit (.int .u64 (ixor .u64 v2 8387220255154660723))])]⟩) (by kernel_rfl) (by kernel_rfl) ?_
  replace h := bindO h
  obtain ⟨y5, hl1, hK1⟩ := h
  refine TS_loopB (F_siphash_Sum_l1 a1) ⟨[(1, []), (7, []), (8, []), (26, []), (27, [])], [(7, (7, []))]⟩ (fun (s3 : Int × (List Int)) => [(27, .c (.lit (.int .i64 (s3.1))))]) (fun (s3 : Int × (List Int)) => [(7, .box (arrS .u64 4 s3.2))]) (0, [ixor .u64 v1 8317987319222330741, ixor .u64 v2 7237128888997146477, ixor .u64 v1 7816392313619706465, ixor .u64 v2 8387220255154660723]) y5 (.exit 0) (fun (b : (List Int)) => b) ⟨[(1, []), (7, []), (8, [])], [(7, (7, []))]⟩ (fun (b4 : (List Int)) => []) (fun (b4 : (List Int)) => [(7, .box (arrS .u64 4 b4))]) hl1 (by kernel_rfl) (by kernel_rfl) ?_ ?_
  · intro s3 x h hy1
    unfold F_siphash_Sum_l1 at h
    refine TS_go 5 ?_
    replace h := condO h
    rcases h with ⟨hb6, h⟩ | ⟨hb6, h⟩
    · refine TS_know 28 (b := true) hb6 (by kernel_rfl) (by kernel_rfl) ?_
      refine TS_T (by kernel_rfl) rfl ?_
      refine TS_go 8 ?_
      refine TS_draw (by kernel_rfl) ?_
      refine TD_go 7 ?_
      replace h := bindO h
      obtain ⟨l7, hl7, h⟩ := h
      refine TD_sub (ecI .u8) 1 hl7 (by kernel_rfl) (by kernel_rfl) ?_
      replace h := bindO h
      obtain ⟨v8, hv8, h⟩ := h
      refine TD_call [] (ok_siphash_little l7 v8 hv8) (by kernel_rfl) (by kernel_rfl) ?_
      replace h := bindO h
      obtain ⟨v9, hv9, h⟩ := h
      refine TD_call [] (ok_siphash_state_mix s3.2 v8 v9 hv9) (by kernel_rfl) (by kernel_rfl) ?_
      refine TD_go 1 ?_
      refine TD_end (by kernel_rfl) ?_
      refine TS_go 5 ?_
      have ret := Option.some.inj h
      subst ret
      exact TS_againB _ ⟨[(1, []), (7, []), (8, []), (26, []), (27, [])], [(7, (7, []))]⟩ rfl (by kernel_rfl) (by kernel_rfl)
    · refine TS_know 28 (b := false) hb6 (by kernel_rfl) (by kernel_rfl) ?_
      refine TS_F (by kernel_rfl) rfl ?_
      refine TS_go 2 ?_
      have ret := Option.some.inj h
      subst ret
      exact TS_brkB s3.2 ⟨[(1, []), (7, []), (8, [])], [(7, (7, []))]⟩ rfl (by kernel_rfl) (by kernel_rfl) (by kernel_rfl)
  · intro b4 hb
    subst y5
    have h := hK1
    refine TS_go 2 ?_
    refine TS_draw (by kernel_rfl) ?_
    refine TD_go 4 ?_
    replace h := bindO h
    obtain ⟨l11, hl11, h⟩ := h
    refine TD_sub (ecI .u8) 1 hl11 (by kernel_rfl) (by kernel_rfl) ?_
    replace h := bindO h
    obtain ⟨v12, hv12, h⟩ := h
    refine TD_call [] (ok_siphash_little l11 v12 hv12) (by kernel_rfl) (by kernel_rfl) ?_
    refine TD_go 5 ?_
    replace h := bindO h
    obtain ⟨v13, hv13, h⟩ := h
    refine TD_call [] (ok_siphash_state_mix b4 (ior .u64 v12 (ishl .u64 (IntKind.wrap .u64 (List.length a1 : Int)) 56)) v13 hv13) (by kernel_rfl) (by kernel_rfl) ?_
    refine TD_go 1 ?_
    refine TD_end (by kernel_rfl) ?_
    refine TS_go 11 ?_
    replace h := bindO h
    obtain ⟨v14, hv14, h⟩ := h
    refine TS_call [] (ok_siphash_state_rounds [(v13.getD 0 0), (v13.getD 1 0), ixor .u64 (v13.getD 2 0) 255, (v13.getD 3 0)] 4 v14 hv14) (by kernel_rfl) (by kernel_rfl) ?_
    refine TS_go 18 ?_
    have ret := Option.some.inj h
    subst ret
    exact TS_ret (by kernel_rfl) (by kernel_rfl) (by kernel_rfl)

/-- multihop/siphash.Derive -/
noncomputable def F_siphash_Derive_l2 (s4 : Int × (List Int)) (v9 : Int) (s10 : Int × (List Int)) : Option ((Int × (List Int)) ⊕ ((List Int))) :=
  bif (decide (s10.1 < 8)) then
    bif decide (0 ≤ (IntKind.wrap .i64 (8 * s10.1))) then
      bif decide ((0 : Int) ≤ (IntKind.wrap .i64 ((IntKind.wrap .i64 (8 * s4.1)) + s10.1)) ∧ (IntKind.wrap .i64 ((IntKind.wrap .i64 (8 * s4.1)) + s10.1)) < (16 : Int)) then
        some (Sum.inl (IntKind.wrap .i64 (s10.1 + 1), (setA 16 s10.2 (Int.toNat (IntKind.wrap .i64 ((IntKind.wrap .i64 (8 * s4.1)) + s10.1))) (IntKind.wrap .u8 (ishr .u64 v9 (IntKind.wrap .i64 (8 * s10.1)))))))
      else none
    else none
  else
    some (Sum.inr s10.2)
noncomputable def F_siphash_Derive_l1 (v3 : (List Int)) (a0 : List Int) (s4 : Int × (List Int)) : Option ((Int × (List Int)) ⊕ ((List Int))) :=
  bif (decide (s4.1 < 2)) then
    (F_octets_Append v3 (IntKind.wrap .u64 s4.1) 1).bind fun v8 =>
    (F_siphash_Sum a0 v8).bind fun v9 =>
    (loopO (F_siphash_Derive_l2 s4 v9) (0, s4.2)).bind fun b11 =>
    some (Sum.inl (IntKind.wrap .i64 (s4.1 + 1), b11))
  else
    some (Sum.inr s4.2)
noncomputable def F_siphash_Derive (a0 : List Int) (a1 : List UInt8) (a2 : Int) : Option ((List Int)) :=
  bif decide (List.length a1 ≤ maxLen) then
    (F_octets_Append (i8L a1) 0 1).bind fun v2 =>
    (F_octets_Append v2 a2 8).bind fun v3 =>
    (loopO (F_siphash_Derive_l1 v3 a0) (0, [0, 0, 0, 0, 0, 0, 0, 0, 0, 0, 0, 0, 0, 0, 0, 0])).bind fun b5 =>
    some (b5)
  else none
set_option maxRecDepth 100000 in
set_option maxHeartbeats 40000000 in
theorem ok_siphash_Derive (a0 : List Int) (a1 : List UInt8) (a2 : Int) (r : (List Int)) (h : F_siphash_Derive a0 a1 a2 = some r) : Con Try.prog 69 [.agg (arrS .u8 16 a0), .c (.lit (.string (bs8 a1))), .c (.lit (.int .u64 (a2)))] [] (.agg (arrS .u8 16 r)) [] := by
  unfold F_siphash_Derive at h
  refine con_of [] [] 43 Try.func69 rfl rfl (by kernel_rfl) (fun K => ?_)
  refine TS_go 8 ?_
  replace h := chkO h
  obtain ⟨hc1, h⟩ := h
  refine TS_s2bT 13 5 1 a1 hc1 rfl (by kernel_rfl) (by kernel_rfl) ?_
  replace h := bindO h
  obtain ⟨v2, hv2, h⟩ := h
  refine TS_con [[2]] [(14, 900000)] none (okT_octets_Append (i8L a1) 0 1 v2 hv2) (by kernel_rfl) (by kernel_rfl) (by kernel_rfl) ?_
  refine TS_go 6 ?_
  replace h := bindO h
  obtain ⟨v3, hv3, h⟩ := h
  refine TS_con [[2]] [(17, 900000)] none (okT_octets_Append v2 a2 8 v3 hv3) (by kernel_rfl) (by kernel_rfl) (by kernel_rfl) ?_
  refine TS_go 12 ?_
  refine TS_cut ⟨[(3, []), (6, []), (7, []), (8, []), (18, [])], [(3, (3, [])), (6, (6, [])), (17, (17, [])), (8, (8, []))]⟩ (.mk [.code (codeAt [1, 1, 1, 1, 0, 1, 0] (bodyOf Try.f69)), .blk 0, .code (codeAt [1, 1, 1, 1, 1] (bodyOf Try.f69))] .normal ⟨[(3, .c (.box 3 0)), (6, .c (.box 6 0)), (7, .c (.slc 1 19 (List.length v3) (List.map (ecI .u8) v3))), (8, .c (.box 8 0)), (18, .c (.lit (.int .i64 (0))))], [(3, .box [.lit (.int .u8 ((a0.getD 0 0))), .lit (.int .u8 ((a0.getD 1 0))), .lit (.int .u8 ((a0.getD 2 0))), .lit (.int .u8 ((a0.getD 3 0))), .lit (.int .u8 ((a0.getD 4 0))), .lit (.int .u8 ((a0.getD 5 0))), .lit (.int .u8 ((a0.getD 6 0))), .lit (.int .u8 ((a0.getD 7 0))), .lit (.int .u8 ((a0.getD 8 0))), .lit (.int .u8 ((a0.getD 9 0))), .lit (.int .u8 ((a0.getD 10 0))), .lit (.int .u8 ((a0.getD 11 0))), .lit (.int .u8 ((a0.getD 12 0))), .lit (.int .u8 ((a0.getD 13 0))), .lit (.int .u8 ((a0.getD 14 0))), .lit (.int .u8 ((a0.getD 15 0)))]), (6, .box [.lit (.int .u8 (0)), .lit (.int .u8 (0)), .lit (.int .u8 (0)), .lit (.int .u8 (0)), .lit (.int .u8 (0)), .lit (.int .u8 (0)), .lit (.int .u8 (0)), .lit (.int .u8 (0)), .lit (.int .u8 (0)), .lit (.int .u8 (0)), .lit (.int .u8 (0)), .lit (.int .u8 (0)), .lit (.int .u8 (0)), .lit (.int .u8 (0)), .lit (.int .u8 (0)), .lit (.int .u8 (0))]), (17, .spare 5 1 (List.length v3)), (8, .box [.lit (.int .u8 (0)), .lit (.int .u8 (0)), .lit (.int .u8 (0)), .lit (.int .u8 (0)), .lit (.int .u8 (0)), .lit (.int .u8 (0)), .lit (.int .u8 (0)), .lit (.int .u8 (0)), .lit (.int .u8 (0)), .lit (.int .u8 (0)), .lit (.int .u8 (0)), .lit (.int .u8 (0)), .lit (.int .u8 (0)), .lit (.int .u8 (0)), .lit (.int .u8 (0)), .lit (.int .u8 (0))])]⟩) (by kernel_rfl) (by kernel_rfl) ?_
  replace h := bindO h
  obtain ⟨y6, hl1, hK1⟩ := h
  refine TS_loopB (F_siphash_Derive_l1 v3 a0) ⟨[(3, []), (6, []), (7, []), (8, []), (18, [])], [(3, (3, [])), (6, (6, [])), (17, (17, [])), (8, (8, []))]⟩ (fun (s4 : Int × (List Int)) => [(18, .c (.lit (.int .i64 (s4.1))))]) (fun (s4 : Int × (List Int)) => [(8, .box (arrS .u8 16 s4.2))]) (0, [0, 0, 0, 0, 0, 0, 0, 0, 0, 0, 0, 0, 0, 0, 0, 0]) y6 (.exit 0) (fun (b : (List Int)) => b) ⟨[(6, []), (8, [])], [(6, (6, [])), (8, (8, []))]⟩ (fun (b5 : (List Int)) => []) (fun (b5 : (List Int)) => [(8, .box (arrS .u8 16 b5))]) hl1 (by kernel_rfl) (by kernel_rfl) ?_ ?_
  · intro s4 x h hy1
    unfold F_siphash_Derive_l1 at h
    refine TS_go 5 ?_
    replace h := condO h
    rcases h with ⟨hb7, h⟩ | ⟨hb7, h⟩
    · refine TS_know 19 (b := true) hb7 (by kernel_rfl) (by kernel_rfl) ?_
      refine TS_T (by kernel_rfl) rfl ?_
      refine TS_go 9 ?_
      refine TS_draw (by kernel_rfl) ?_
      refine TD_go 4 ?_
      replace h := bindO h
      obtain ⟨v8, hv8, h⟩ := h
      refine TD_conX (d := 25) (e := 900000) [[2]] (okT_octets_Append v3 (IntKind.wrap .u64 s4.1) 1 v8 hv8) (by kernel_rfl) (by kernel_rfl) ?_
      replace h := bindO h
      obtain ⟨v9, hv9, h⟩ := h
      refine TD_call [[], [2]] (ok_siphash_Sum a0 v8 v9 hv9) (by kernel_rfl) (by kernel_rfl) ?_
      refine TD_go 1 ?_
      refine TD_end (by kernel_rfl) ?_
      refine TS_go 5 ?_
      refine TS_cut ⟨[(3, []), (6, []), (7, []), (8, []), (18, []), (9, []), (10, []), (27, [])], [(3, (3, [])), (6, (6, [])), (17, (17, [])), (8, (8, []))]⟩ (.mk [.code (codeAt [1, 1, 1, 1, 0, 1, 0, 0, 1, 1, 0, 0, 1, 1, 1, 0] (bodyOf Try.f69)), .blk 2, .blk 1, .code (codeAt [1, 1, 1, 1, 0, 1, 0, 0, 1, 1, 1] (bodyOf Try.f69))] .normal ⟨[(3, .c (.box 3 0)), (6, .c (.box 6 0)), (7, .c (.slc 1 19 (List.length v3) (List.map (ecI .u8) v3))), (8, .c (.box 8 0)), (18, .c (.lit (.int .i64 (s4.1)))), (9, .c (.lit (.int .i64 (s4.1)))), (10, .c (.lit (.int .u64 (v9)))), (27, .c (.lit (.int .i64 (0))))], [(3, .box [.lit (.int .u8 ((a0.getD 0 0))), .lit (.int .u8 ((a0.getD 1 0))), .lit (.int .u8 ((a0.getD 2 0))), .lit (.int .u8 ((a0.getD 3 0))), .lit (.int .u8 ((a0.getD 4 0))), .lit (.int .u8 ((a0.getD 5 0))), .lit (.int .u8 ((a0.getD 6 0))), .lit (.int .u8 ((a0.getD 7 0))), .lit (.int .u8 ((a0.getD 8 0))), .lit (.int .u8 ((a0.getD 9 0))), .lit (.int .u8 ((a0.getD 10 0))), .lit (.int .u8 ((a0.getD 11 0))), .lit (.int .u8 ((a0.getD 12 0))), .lit (.int .u8 ((a0.getD 13 0))), .lit (.int .u8 ((a0.getD 14 0))), .lit (.int .u8 ((a0.getD 15 0)))]), (6, .box [.lit (.int .u8 (0)), .lit (.int .u8 (0)), .lit (.int .u8 (0)), .lit (.int .u8 (0)), .lit (.int .u8 (0)), .lit (.int .u8 (0)), .lit (.int .u8 (0)), .lit (.int .u8 (0)), .lit (.int .u8 (0)), .lit (.int .u8 (0)), .lit (.int .u8 (0)), .lit (.int .u8 (0)), .lit (.int .u8 (0)), .lit (.int .u8 (0)), .lit (.int .u8 (0)), .lit (.int .u8 (0))]), (17, .spare 5 1 (List.length v3)), (8, .box [.lit (.int .u8 ((s4.2.getD 0 0))), .lit (.int .u8 ((s4.2.getD 1 0))), .lit (.int .u8 ((s4.2.getD 2 0))), .lit (.int .u8 ((s4.2.getD 3 0))), .lit (.int .u8 ((s4.2.getD 4 0))), .lit (.int .u8 ((s4.2.getD 5 0))), .lit (.int .u8 ((s4.2.getD 6 0))), .lit (.int .u8 ((s4.2.getD 7 0))), .lit (.int .u8 ((s4.2.getD 8 0))), .lit (.int .u8 ((s4.2.getD 9 0))), .lit (.int .u8 ((s4.2.getD 10 0))), .lit (.int .u8 ((s4.2.getD 11 0))), .lit (.int .u8 ((s4.2.getD 12 0))), .lit (.int .u8 ((s4.2.getD 13 0))), .lit (.int .u8 ((s4.2.getD 14 0))), .lit (.int .u8 ((s4.2.getD 15 0)))])]⟩) (by kernel_rfl) (by kernel_rfl) ?_
      replace h := bindO h
      obtain ⟨y12, hl2, hK2⟩ := h
      refine TS_loopB (F_siphash_Derive_l2 s4 v9) ⟨[(3, []), (6, []), (7, []), (8, []), (9, []), (10, []), (18, []), (27, [])], [(3, (3, [])), (6, (6, [])), (17, (17, [])), (8, (8, []))]⟩ (fun (s10 : Int × (List Int)) => [(27, .c (.lit (.int .i64 (s10.1))))]) (fun (s10 : Int × (List Int)) => [(8, .box (arrS .u8 16 s10.2))]) (0, s4.2) y12 (.exit 2) (fun (b : (List Int)) => b) ⟨[(3, []), (6, []), (7, []), (8, []), (18, [])], [(3, (3, [])), (6, (6, [])), (17, (17, [])), (8, (8, []))]⟩ (fun (b11 : (List Int)) => []) (fun (b11 : (List Int)) => [(8, .box (arrS .u8 16 b11))]) hl2 (by kernel_rfl) (by kernel_rfl) ?_ ?_
      · intro s10 x h hy2
        unfold F_siphash_Derive_l2 at h
        refine TS_go 5 ?_
        replace h := condO h
        rcases h with ⟨hb13, h⟩ | ⟨hb13, h⟩
        · refine TS_know 28 (b := true) hb13 (by kernel_rfl) (by kernel_rfl) ?_
          refine TS_T (by kernel_rfl) rfl ?_
          refine TS_go 16 ?_
          replace h := chkO h
          obtain ⟨hc14, h⟩ := h
          refine TS_num (op := .shr) (k := .u64) (k' := .i64) (m := v9) (i := IntKind.wrap .i64 (8 * s10.1)) (of_decide_eq_true hc14) rfl (by simp) (by kernel_rfl) (by kernel_rfl) ?_
          refine TS_go 1 ?_
          replace h := chkO h
          obtain ⟨hc15, h⟩ := h
          refine TS_idxA 8 0 16 (i := IntKind.wrap .i64 ((IntKind.wrap .i64 (8 * s4.1)) + s10.1)) hc15 (by kernel_rfl) (by kernel_rfl) ?_
          refine TS_stA (k := .u8) (d := 8) 0 16 (i := IntKind.wrap .i64 ((IntKind.wrap .i64 (8 * s4.1)) + s10.1)) (v := IntKind.wrap .u8 (ishr .u64 v9 (IntKind.wrap .i64 (8 * s10.1)))) s10.2 (pre := []) (post := []) hc15 (by kernel_rfl) (by kernel_rfl) (by kernel_rfl) ?_
          refine TS_go 6 ?_
          have ret := Option.some.inj h
          subst ret
          exact TS_againB _ ⟨[(3, []), (6, []), (7, []), (8, []), (9, []), (10, []), (18, []), (27, [])], [(3, (3, [])), (6, (6, [])), (17, (17, [])), (8, (8, []))]⟩ rfl (by kernel_rfl) (by kernel_rfl)
        · refine TS_know 28 (b := false) hb13 (by kernel_rfl) (by kernel_rfl) ?_
          refine TS_F (by kernel_rfl) rfl ?_
          refine TS_go 2 ?_
          have ret := Option.some.inj h
          subst ret
          exact TS_brkB s10.2 ⟨[(3, []), (6, []), (7, []), (8, []), (18, [])], [(3, (3, [])), (6, (6, [])), (17, (17, [])), (8, (8, []))]⟩ rfl (by kernel_rfl) (by kernel_rfl) (by kernel_rfl)
      · intro b11 hb
        subst y12
        have h := hK2
        refine TS_go 6 ?_
        have ret := Option.some.inj h
        subst ret
        exact TS_againB _ ⟨[(3, []), (6, []), (7, []), (8, []), (18, [])], [(3, (3, [])), (6, (6, [])), (17, (17, [])), (8, (8, []))]⟩ rfl (by kernel_rfl) (by kernel_rfl)
    · refine TS_know 19 (b := false) hb7 (by kernel_rfl) (by kernel_rfl) ?_
      refine TS_F (by kernel_rfl) rfl ?_
      refine TS_go 2 ?_
      have ret := Option.some.inj h
      subst ret
      exact TS_brkB s4.2 ⟨[(6, []), (8, [])], [(6, (6, [])), (8, (8, []))]⟩ rfl (by kernel_rfl) (by kernel_rfl) (by kernel_rfl)
  · intro b5 hb
    subst y6
    have h := hK1
    refine TS_go 7 ?_
    have ret := Option.some.inj h
    subst ret
    exact TS_ret (by kernel_rfl) (by kernel_rfl) (by kernel_rfl)

/-- multihop/siphash.Tag -/
noncomputable def F_siphash_Tag_l1 (a2 : Int) (v3 : Int) (s5 : Int × (List Int)) : Option ((Int × (List Int)) ⊕ ((List Int))) :=
  bif (decide (s5.1 < a2)) then
    bif decide (0 ≤ (IntKind.wrap .i64 (8 * s5.1))) then
      (idx (Cut.app .whole s5.2) s5.1).bind fun _e10 =>
      (s5.2[(0 + Int.toNat s5.1)]?).bind fun _e11 =>
      some (Sum.inl (IntKind.wrap .i64 (s5.1 + 1), (List.set s5.2 (0 + Int.toNat s5.1) (IntKind.wrap .u8 (ishr .u64 v3 (IntKind.wrap .i64 (8 * s5.1)))))))
    else none
  else
    some (Sum.inr s5.2)
noncomputable def F_siphash_Tag (a0 : List Int) (a1 : List Int) (a2 : Int) : Option ((List Int) × Bool) :=
  bif (decide (a2 < 1)) then
    some ((([] : List Int), false))
  else
    bif (decide (a2 > 8)) then
      some ((([] : List Int), false))
    else
      (F_siphash_Sum a0 a1).bind fun v3 =>
      (mkO 1 a2 a2).bind fun n4 =>
      (loopO (F_siphash_Tag_l1 a2 v3) (0, (List.replicate n4 (0 : Int)))).bind fun b6 =>
      some ((b6, true))
set_option maxRecDepth 100000 in
set_option maxHeartbeats 40000000 in
theorem okT_siphash_Tag (a0 : List Int) (a1 : List Int) (a2 : Int) (r : (List Int) × Bool) (h : F_siphash_Tag a0 a1 a2 = some r) : Con Try.prog 70 [.agg (arrS .u8 16 a0), .c (eS 1 (ecI .u8) (a1)), .c (.lit (.int .i64 (a2)))] [] (.tup [(false, [.slc 1 900002 (List.length r.1) (List.map (ecI .u8) r.1)]), (false, [.lit (.bool (r.2))])]) [(900000, .spare 5 1 (List.length r.1))] := by
  unfold F_siphash_Tag at h
  refine con_of [] [(900000, [])] 36 Try.func70 rfl rfl (by kernel_rfl) (fun K => ?_)
  refine TS_go 12 ?_
  replace h := condO h
  rcases h with ⟨hb1, h⟩ | ⟨hb1, h⟩
  · refine TS_know 12 (b := true) hb1 (by kernel_rfl) (by kernel_rfl) ?_
    refine TS_know 13 (b := true) hb1 (by kernel_rfl) (by kernel_rfl) ?_
    refine TS_go 4 ?_
    refine TS_T (by kernel_rfl) rfl ?_
    refine TS_go 5 ?_
    refine TS_nilT 6 600000 5 1 (by kernel_rfl) ?_
    refine TS_fitU ⟨[(6, []), (7, [])], [(600000, (900000, []))]⟩ (by kernel_rfl) ?_
    refine TS_go 2 ?_
    have ret := Option.some.inj h
    subst ret
    exact TS_ret (by kernel_rfl) (by kernel_rfl) (by kernel_rfl)
  · refine TS_know 12 (b := false) hb1 (by kernel_rfl) (by kernel_rfl) ?_
    refine TS_know 13 (b := false) hb1 (by kernel_rfl) (by kernel_rfl) ?_
    refine TS_go 4 ?_
    replace h := condO h
    rcases h with ⟨hb2, h⟩ | ⟨hb2, h⟩
    · refine TS_know 15 (b := true) hb2 (by kernel_rfl) (by kernel_rfl) ?_
      refine TS_know 16 (b := true) hb2 (by kernel_rfl) (by kernel_rfl) ?_
      refine TS_T (by kernel_rfl) rfl ?_
      refine TS_go 5 ?_
      refine TS_nilT 6 600000 5 1 (by kernel_rfl) ?_
      refine TS_fitU ⟨[(6, []), (7, [])], [(600000, (900000, []))]⟩ (by kernel_rfl) ?_
      refine TS_go 2 ?_
      have ret := Option.some.inj h
      subst ret
      exact TS_ret (by kernel_rfl) (by kernel_rfl) (by kernel_rfl)
    · refine TS_know 15 (b := false) hb2 (by kernel_rfl) (by kernel_rfl) ?_
      refine TS_know 16 (b := false) hb2 (by kernel_rfl) (by kernel_rfl) ?_
      refine TS_F (by kernel_rfl) rfl ?_
      refine TS_go 5 ?_
      replace h := bindO h
      obtain ⟨v3, hv3, h⟩ := h
      refine TS_call [] (ok_siphash_Sum a0 a1 v3 hv3) (by kernel_rfl) (by kernel_rfl) ?_
      refine TS_go 5 ?_
      replace h := bindO h
      obtain ⟨n4, hn4, h⟩ := h
      refine TS_makeR 21 5 1 (ecI .u8) (0 : Int) [] (cs := [.lit (.int .u8 (0))]) (l := a2) (c := a2) hn4 (by kernel_rfl) (by kernel_rfl) (by kernel_rfl) ?_
      refine TS_go 9 ?_
      refine TS_cut ⟨[(8, []), (9, []), (22, []), (23, [])], [(21, (21, []))]⟩ (.mk [.code (codeAt [1, 1, 1, 1, 0, 1, 0] (bodyOf Try.f70)), .blk 0, .code (codeAt [1, 1, 1, 1, 1] (bodyOf Try.f70))] .normal ⟨[(8, .c (.lit (.int .u64 (v3)))), (9, .c (.own 21)), (22, .c (.lit (.int .i64 (a2)))), (23, .c (.lit (.int .i64 (0))))], [(21, .row 5 1 (List.length (List.replicate n4 (0 : Int))) (List.map (ecI .u8) (List.replicate n4 (0 : Int))))]⟩) (by kernel_rfl) (by kernel_rfl) ?_
      replace h := bindO h
      obtain ⟨y7, hl1, hK1⟩ := h
      refine TS_loopB (F_siphash_Tag_l1 a2 v3) ⟨[(8, []), (9, []), (22, []), (23, [])], [(21, (21, []))]⟩ (fun (s5 : Int × (List Int)) => [(23, .c (.lit (.int .i64 (s5.1))))]) (fun (s5 : Int × (List Int)) => [(21, .row 5 1 (List.length s5.2) (List.map (ecI .u8) s5.2))]) (0, (List.replicate n4 (0 : Int))) y7 (.exit 0) (fun (b : (List Int)) => b) ⟨[(9, [])], [(21, (21, []))]⟩ (fun (b6 : (List Int)) => []) (fun (b6 : (List Int)) => [(21, .row 5 1 (List.length b6) (List.map (ecI .u8) b6))]) hl1 (by kernel_rfl) (by kernel_rfl) ?_ ?_
      · intro s5 x h hy1
        unfold F_siphash_Tag_l1 at h
        refine TS_go 5 ?_
        replace h := condO h
        rcases h with ⟨hb8, h⟩ | ⟨hb8, h⟩
        · refine TS_know 24 (b := true) hb8 (by kernel_rfl) (by kernel_rfl) ?_
          refine TS_T (by kernel_rfl) rfl ?_
          refine TS_go 14 ?_
          replace h := chkO h
          obtain ⟨hc9, h⟩ := h
          refine TS_num (op := .shr) (k := .u64) (k' := .i64) (m := v3) (i := IntKind.wrap .i64 (8 * s5.1)) (of_decide_eq_true hc9) rfl (by simp) (by kernel_rfl) (by kernel_rfl) ?_
          refine TS_go 1 ?_
          replace h := bindO h
          obtain ⟨_e10, he10, h⟩ := h
          refine TS_idxR 21 1 0 (ecI .u8) .whole he10 (by kernel_rfl) (by kernel_rfl) ?_
          replace h := bindO h
          obtain ⟨_e11, he11, h⟩ := h
          refine TS_stE 21 5 1 (List.length s5.2) (0 + Int.toNat s5.1) 0 (ecI .u8) (ds := [.lit (.int .u8 (IntKind.wrap .u8 (ishr .u64 v3 (IntKind.wrap .i64 (8 * s5.1)))))]) (IntKind.wrap .u8 (ishr .u64 v3 (IntKind.wrap .i64 (8 * s5.1)))) he11 (by kernel_rfl) (by kernel_rfl) (by kernel_rfl) (by kernel_rfl) ?_
          refine TS_go 6 ?_
          have ret := Option.some.inj h
          subst ret
          exact TS_againB _ ⟨[(8, []), (9, []), (22, []), (23, [])], [(21, (21, []))]⟩ rfl (by kernel_rfl) (by kernel_rfl)
        · refine TS_know 24 (b := false) hb8 (by kernel_rfl) (by kernel_rfl) ?_
          refine TS_F (by kernel_rfl) rfl ?_
          refine TS_go 2 ?_
          have ret := Option.some.inj h
          subst ret
          exact TS_brkB s5.2 ⟨[(9, [])], [(21, (21, []))]⟩ rfl (by kernel_rfl) (by kernel_rfl) (by kernel_rfl)
      · intro b6 hb
        subst y7
        have h := hK1
        refine TS_go 7 ?_
        refine TS_settle 21 (by kernel_rfl) ?_
        refine TS_fitU ⟨[(6, []), (7, [])], [(21, (900000, []))]⟩ (by kernel_rfl) ?_
        refine TS_go 1 ?_
        have ret := Option.some.inj h
        subst ret
        exact TS_ret (by kernel_rfl) (by kernel_rfl) (by kernel_rfl)
/-- multihop/management.tag -/
noncomputable def F_management_tag (a0 : List Int) (a1 : Int) (a2 : List Int) : Option ((List Int)) :=
  (F_siphash_Derive a0 ([115, 101, 116, 116, 105, 110, 103, 115] : List UInt8) (IntKind.wrap .u64 a1)).bind fun v1 =>
  (F_octets_Append ([] : List Int) (IntKind.wrap .u64 a1) 4).bind fun v2 =>
  (appO 1 v2 (Cut.app .whole a2)).bind fun l3 =>
  (F_siphash_Tag v1 l3 8).bind fun v4 =>
  some ((cpA 8 [0, 0, 0, 0, 0, 0, 0, 0] (Cut.app .whole v4.1)))
set_option maxRecDepth 100000 in
set_option maxHeartbeats 40000000 in
theorem ok_management_tag (a0 : List Int) (a1 : Int) (a2 : List Int) (r : (List Int)) (h : F_management_tag a0 a1 a2 = some r) : Con Try.prog 49 [.agg (arrS .u8 16 a0), .c (.lit (.int .i64 (a1))), .c (eS 1 (ecI .u8) (a2))] [] (.agg (arrS .u8 8 r)) [] := by
  unfold F_management_tag at h
  refine con_of [] [] 32 Try.func49 rfl rfl (by kernel_rfl) (fun K => ?_)
  refine TS_go 10 ?_
  replace h := bindO h
  obtain ⟨v1, hv1, h⟩ := h
  refine TS_call [] (ok_siphash_Derive a0 ([115, 101, 116, 116, 105, 110, 103, 115] : List UInt8) (IntKind.wrap .u64 a1) v1 hv1) (by kernel_rfl) (by kernel_rfl) ?_
  refine TS_go 7 ?_
  replace h := bindO h
  obtain ⟨v2, hv2, h⟩ := h
  refine TS_con [[2]] [(18, 900000)] none (okT_octets_Append ([] : List Int) (IntKind.wrap .u64 a1) 4 v2 hv2) (by kernel_rfl) (by kernel_rfl) (by kernel_rfl) ?_
  refine TS_go 6 ?_
  replace h := bindO h
  obtain ⟨l3, hl3, h⟩ := h
  refine TS_appT (d := 18) (e := 5) (sz := 1) (N := List.length v2) (ecI .u8) (fun _ => by kernel_rfl) (l1 := v2) (l2 := a2) (c := .whole) hl3 (by kernel_rfl) (by kernel_rfl) ?_
  refine TS_go 6 ?_
  replace h := bindO h
  obtain ⟨v4, hv4, h⟩ := h
  refine TS_con [[], [2]] [(25, 900000)] none (okT_siphash_Tag v1 l3 8 v4 hv4) (by kernel_rfl) (by kernel_rfl) (by kernel_rfl) ?_
  refine TS_go 12 ?_
  refine TS_win 11 0 8 (a := 0) (b := 8) (by decide) (by decide) (by kernel_rfl) (by kernel_rfl) ?_
  refine TS_go 1 ?_
  refine TS_cpW (k := .u8) 11 0 8 [0, 0, 0, 0, 0, 0, 0, 0] v4.1 .whole (pre := []) (post := []) (by kernel_rfl) (by kernel_rfl) (by kernel_rfl) ?_
  refine TS_go 7 ?_
  have ret := Option.some.inj h
  subst ret
  exact TS_ret (by kernel_rfl) (by kernel_rfl) (by kernel_rfl)

/-- multihop/management.Check -/
noncomputable def F_management_Check (a0 : List Int) (a1 : S_Settings) : Option (Bool) :=
  (F_management_Valid a1).bind fun v1 =>
  bif v1 then
    bif (a1.Version != 0) then
      (F_management_tag a0 a1.Version a1.Data).bind fun v4 =>
      some ((arrEq 8 a1.Tag v4))
    else
      some (false)
  else
    some (false)
set_option maxRecDepth 100000 in
set_option maxHeartbeats 40000000 in
theorem ok_management_Check (a0 : List Int) (a1 : S_Settings) (r : Bool) (h : F_management_Check a0 a1 = some r) : Con Try.prog 21 [.agg (arrS .u8 16 a0), .agg (S_Settings.cs a1)] [] (.c (.lit (.bool (r)))) [] := by
  unfold F_management_Check at h
  refine con_of [] [] 23 Try.func21 rfl rfl (by kernel_rfl) (fun K => ?_)
  refine TS_go 7 ?_
  refine TS_draw (by kernel_rfl) ?_
  refine TD_go 1 ?_
  replace h := bindO h
  obtain ⟨v1, hv1, h⟩ := h
  refine TD_call [] (ok_management_Valid a1 v1 hv1) (by kernel_rfl) (by kernel_rfl) ?_
  refine TD_go 1 ?_
  replace h := condO h
  rcases h with ⟨hb2, h⟩ | ⟨hb2, h⟩
  · subst hb2
    refine TD_go 4 ?_
    replace h := condO h
    rcases h with ⟨hb3, h⟩ | ⟨hb3, h⟩
    · refine TD_know 12 (b := true) hb3 trivial (by kernel_rfl) (by kernel_rfl) ?_
      refine TD_go 7 ?_
      replace h := bindO h
      obtain ⟨v4, hv4, h⟩ := h
      refine TD_call [] (ok_management_tag a0 a1.Version a1.Data v4 hv4) (by kernel_rfl) (by kernel_rfl) ?_
      refine TD_go 3 ?_
      refine TD_end (by kernel_rfl) ?_
      refine TS_go 1 ?_
      have ret := Option.some.inj h
      subst ret
      exact TS_ret (by kernel_rfl) (by kernel_rfl) (by kernel_rfl)
    · refine TD_know 12 (b := false) hb3 trivial (by kernel_rfl) (by kernel_rfl) ?_
      refine TD_go 11 ?_
      refine TD_end (by kernel_rfl) ?_
      refine TS_go 1 ?_
      have ret := Option.some.inj h
      subst ret
      exact TS_ret (by kernel_rfl) (by kernel_rfl) (by kernel_rfl)
  · subst hb2
    refine TD_go 16 ?_
    refine TD_end (by kernel_rfl) ?_
    refine TS_go 1 ?_
    have ret := Option.some.inj h
    subst ret
    exact TS_ret (by kernel_rfl) (by kernel_rfl) (by kernel_rfl)

/-- multihop/management.Take -/
noncomputable def F_management_Take (a0 : S_Settings) (a1 : List Int) (a2 : S_Settings) : Option (S_Settings × Int) :=
  (F_management_Valid a0).bind fun v1 =>
  bif v1 then
    (F_management_Valid a2).bind fun v3 =>
    bif v3 then
      bif (decide (a2.Version ≤ a0.Version)) then
        some (((S_Settings.mk 0 ([] : List Int) [0, 0, 0, 0, 0, 0, 0, 0]), 16))
      else
        (F_management_Check a1 a2).bind fun v6 =>
        bif v6 then
          (appO 1 ([] : List Int) (Cut.app .whole a2.Data)).bind fun l8 =>
          some (((S_Settings.mk a2.Version l8 a2.Tag), 0))
        else
          some (((S_Settings.mk 0 ([] : List Int) [0, 0, 0, 0, 0, 0, 0, 0]), 12))
    else
      some (((S_Settings.mk 0 ([] : List Int) [0, 0, 0, 0, 0, 0, 0, 0]), 1))
  else
    some (((S_Settings.mk 0 ([] : List Int) [0, 0, 0, 0, 0, 0, 0, 0]), 1))
set_option maxRecDepth 100000 in
set_option maxHeartbeats 40000000 in
theorem okT_management_Take (a0 : S_Settings) (a1 : List Int) (a2 : S_Settings) (r : S_Settings × Int) (h : F_management_Take a0 a1 a2 = some r) : Con Try.prog 14 [.agg (S_Settings.cs a0), .agg (arrS .u8 16 a1), .agg (S_Settings.cs a2)] [] (.tup [(true, [.lit (.int .i64 (r.1.Version)), .slc 1 900003 (List.length r.1.Data) (List.map (ecI .u8) r.1.Data), .lit (.int .u8 ((r.1.Tag.getD 0 0))), .lit (.int .u8 ((r.1.Tag.getD 1 0))), .lit (.int .u8 ((r.1.Tag.getD 2 0))), .lit (.int .u8 ((r.1.Tag.getD 3 0))), .lit (.int .u8 ((r.1.Tag.getD 4 0))), .lit (.int .u8 ((r.1.Tag.getD 5 0))), .lit (.int .u8 ((r.1.Tag.getD 6 0))), .lit (.int .u8 ((r.1.Tag.getD 7 0)))]), (false, [.lit (.int .i64 (r.2))])]) [(900001, .spare 5 1 (List.length r.1.Data))] := by
  unfold F_management_Take at h
  refine con_of [] [(900001, [])] 33 Try.func14 rfl rfl (by kernel_rfl) (fun K => ?_)
  refine TS_go 12 ?_
  replace h := bindO h
  obtain ⟨v1, hv1, h⟩ := h
  refine TS_call [] (ok_management_Valid a0 v1 hv1) (by kernel_rfl) (by kernel_rfl) ?_
  refine TS_go 2 ?_
  replace h := condO h
  rcases h with ⟨hb2, h⟩ | ⟨hb2, h⟩
  · subst hb2
    refine TS_go 1 ?_
    replace h := bindO h
    obtain ⟨v3, hv3, h⟩ := h
    refine TS_call [] (ok_management_Valid a2 v3 hv3) (by kernel_rfl) (by kernel_rfl) ?_
    refine TS_go 3 ?_
    replace h := condO h
    rcases h with ⟨hb4, h⟩ | ⟨hb4, h⟩
    · subst hb4
      refine TS_F (by kernel_rfl) rfl ?_
      refine TS_go 10 ?_
      replace h := condO h
      rcases h with ⟨hb5, h⟩ | ⟨hb5, h⟩
      · refine TS_know 21 (b := true) hb5 (by kernel_rfl) (by kernel_rfl) ?_
        refine TS_T (by kernel_rfl) rfl ?_
        refine TS_go 6 ?_
        refine TS_nilB 6 1 600000 5 1 (by kernel_rfl) ?_
        refine TS_fitU ⟨[(6, []), (7, [])], [(600000, (900001, [])), (6, (6, []))]⟩ (by kernel_rfl) ?_
        refine TS_go 2 ?_
        have ret := Option.some.inj h
        subst ret
        exact TS_ret (by kernel_rfl) (by kernel_rfl) (by kernel_rfl)
      · refine TS_know 21 (b := false) hb5 (by kernel_rfl) (by kernel_rfl) ?_
        refine TS_F (by kernel_rfl) rfl ?_
        refine TS_go 6 ?_
        replace h := bindO h
        obtain ⟨v6, hv6, h⟩ := h
        refine TS_call [] (ok_management_Check a1 a2 v6 hv6) (by kernel_rfl) (by kernel_rfl) ?_
        refine TS_go 2 ?_
        replace h := condO h
        rcases h with ⟨hb7, h⟩ | ⟨hb7, h⟩
        · subst hb7
          refine TS_F (by kernel_rfl) rfl ?_
          refine TS_go 5 ?_
          replace h := bindO h
          obtain ⟨_l8, hl8, h⟩ := h
          refine TS_appNT 30 5 1 (ecI .u8) (fun _ => by kernel_rfl) (l2 := a2.Data) .whole hl8 (by kernel_rfl) (by kernel_rfl) ?_
          refine TS_go 9 ?_
          refine TS_fitU ⟨[(6, []), (7, [])], [(30, (900001, [])), (6, (6, []))]⟩ (by kernel_rfl) ?_
          refine TS_go 1 ?_
          have ret := Option.some.inj h
          subst ret
          exact TS_ret (by kernel_rfl) (by kernel_rfl) (by kernel_rfl)
        · subst hb7
          refine TS_T (by kernel_rfl) rfl ?_
          refine TS_go 6 ?_
          refine TS_nilB 6 1 600000 5 1 (by kernel_rfl) ?_
          refine TS_fitU ⟨[(6, []), (7, [])], [(600000, (900001, [])), (6, (6, []))]⟩ (by kernel_rfl) ?_
          refine TS_go 2 ?_
          have ret := Option.some.inj h
          subst ret
          exact TS_ret (by kernel_rfl) (by kernel_rfl) (by kernel_rfl)
    · subst hb4
      refine TS_T (by kernel_rfl) rfl ?_
      refine TS_go 6 ?_
      refine TS_nilB 6 1 600000 5 1 (by kernel_rfl) ?_
      refine TS_fitU ⟨[(6, []), (7, [])], [(600000, (900001, [])), (6, (6, []))]⟩ (by kernel_rfl) ?_
      refine TS_go 2 ?_
      have ret := Option.some.inj h
      subst ret
      exact TS_ret (by kernel_rfl) (by kernel_rfl) (by kernel_rfl)
  · subst hb2
    refine TS_go 5 ?_
    refine TS_T (by kernel_rfl) rfl ?_
    refine TS_go 6 ?_
    refine TS_nilB 6 1 600000 5 1 (by kernel_rfl) ?_
    refine TS_fitU ⟨[(6, []), (7, [])], [(600000, (900001, [])), (6, (6, []))]⟩ (by kernel_rfl) ?_
    refine TS_go 2 ?_
    have ret := Option.some.inj h
    subst ret
    exact TS_ret (by kernel_rfl) (by kernel_rfl) (by kernel_rfl)
/-- multihop/management.Sign -/
noncomputable def F_management_Sign (a0 : List Int) (a1 : Int) (a2 : List Int) : Option (S_Settings × Int) :=
  bif (decide (a1 < 1)) then
    some (((S_Settings.mk 0 ([] : List Int) [0, 0, 0, 0, 0, 0, 0, 0]), 2))
  else
    bif (decide (a1 > 1073741824)) then
      some (((S_Settings.mk 0 ([] : List Int) [0, 0, 0, 0, 0, 0, 0, 0]), 2))
    else
      bif (decide ((List.length a2 : Int) > 64)) then
        some (((S_Settings.mk 0 ([] : List Int) [0, 0, 0, 0, 0, 0, 0, 0]), 3))
      else
        (appO 1 ([] : List Int) (Cut.app .whole a2)).bind fun l4 =>
        (F_management_tag a0 a1 a2).bind fun v5 =>
        some (((S_Settings.mk a1 l4 v5), 0))
set_option maxRecDepth 100000 in
set_option maxHeartbeats 40000000 in
theorem okT_management_Sign (a0 : List Int) (a1 : Int) (a2 : List Int) (r : S_Settings × Int) (h : F_management_Sign a0 a1 a2 = some r) : Con Try.prog 18 [.agg (arrS .u8 16 a0), .c (.lit (.int .i64 (a1))), .c (eS 1 (ecI .u8) (a2))] [] (.tup [(true, [.lit (.int .i64 (r.1.Version)), .slc 1 900003 (List.length r.1.Data) (List.map (ecI .u8) r.1.Data), .lit (.int .u8 ((r.1.Tag.getD 0 0))), .lit (.int .u8 ((r.1.Tag.getD 1 0))), .lit (.int .u8 ((r.1.Tag.getD 2 0))), .lit (.int .u8 ((r.1.Tag.getD 3 0))), .lit (.int .u8 ((r.1.Tag.getD 4 0))), .lit (.int .u8 ((r.1.Tag.getD 5 0))), .lit (.int .u8 ((r.1.Tag.getD 6 0))), .lit (.int .u8 ((r.1.Tag.getD 7 0)))]), (false, [.lit (.int .i64 (r.2))])]) [(900001, .spare 5 1 (List.length r.1.Data))] := by
  unfold F_management_Sign at h
  refine con_of [] [(900001, [])] 29 Try.func18 rfl rfl (by kernel_rfl) (fun K => ?_)
  refine TS_go 12 ?_
  replace h := condO h
  rcases h with ⟨hb1, h⟩ | ⟨hb1, h⟩
  · refine TS_know 10 (b := true) hb1 (by kernel_rfl) (by kernel_rfl) ?_
    refine TS_know 11 (b := true) hb1 (by kernel_rfl) (by kernel_rfl) ?_
    refine TS_go 4 ?_
    refine TS_T (by kernel_rfl) rfl ?_
    refine TS_go 6 ?_
    refine TS_nilB 6 1 600000 5 1 (by kernel_rfl) ?_
    refine TS_fitU ⟨[(6, []), (7, [])], [(600000, (900001, [])), (6, (6, []))]⟩ (by kernel_rfl) ?_
    refine TS_go 2 ?_
    have ret := Option.some.inj h
    subst ret
    exact TS_ret (by kernel_rfl) (by kernel_rfl) (by kernel_rfl)
  · refine TS_know 10 (b := false) hb1 (by kernel_rfl) (by kernel_rfl) ?_
    refine TS_know 11 (b := false) hb1 (by kernel_rfl) (by kernel_rfl) ?_
    refine TS_go 4 ?_
    replace h := condO h
    rcases h with ⟨hb2, h⟩ | ⟨hb2, h⟩
    · refine TS_know 13 (b := true) hb2 (by kernel_rfl) (by kernel_rfl) ?_
      refine TS_know 14 (b := true) hb2 (by kernel_rfl) (by kernel_rfl) ?_
      refine TS_T (by kernel_rfl) rfl ?_
      refine TS_go 6 ?_
      refine TS_nilB 6 1 600000 5 1 (by kernel_rfl) ?_
      refine TS_fitU ⟨[(6, []), (7, [])], [(600000, (900001, [])), (6, (6, []))]⟩ (by kernel_rfl) ?_
      refine TS_go 2 ?_
      have ret := Option.some.inj h
      subst ret
      exact TS_ret (by kernel_rfl) (by kernel_rfl) (by kernel_rfl)
    · refine TS_know 13 (b := false) hb2 (by kernel_rfl) (by kernel_rfl) ?_
      refine TS_know 14 (b := false) hb2 (by kernel_rfl) (by kernel_rfl) ?_
      refine TS_F (by kernel_rfl) rfl ?_
      refine TS_go 8 ?_
      replace h := condO h
      rcases h with ⟨hb3, h⟩ | ⟨hb3, h⟩
      · refine TS_know 18 (b := true) hb3 (by kernel_rfl) (by kernel_rfl) ?_
        refine TS_T (by kernel_rfl) rfl ?_
        refine TS_go 6 ?_
        refine TS_nilB 6 1 600000 5 1 (by kernel_rfl) ?_
        refine TS_fitU ⟨[(6, []), (7, [])], [(600000, (900001, [])), (6, (6, []))]⟩ (by kernel_rfl) ?_
        refine TS_go 2 ?_
        have ret := Option.some.inj h
        subst ret
        exact TS_ret (by kernel_rfl) (by kernel_rfl) (by kernel_rfl)
      · refine TS_know 18 (b := false) hb3 (by kernel_rfl) (by kernel_rfl) ?_
        refine TS_F (by kernel_rfl) rfl ?_
        refine TS_go 4 ?_
        replace h := bindO h
        obtain ⟨_l4, hl4, h⟩ := h
        refine TS_appNT 21 5 1 (ecI .u8) (fun _ => by kernel_rfl) (l2 := a2) .whole hl4 (by kernel_rfl) (by kernel_rfl) ?_
        refine TS_go 9 ?_
        replace h := bindO h
        obtain ⟨v5, hv5, h⟩ := h
        refine TS_call [] (ok_management_tag a0 a1 a2 v5 hv5) (by kernel_rfl) (by kernel_rfl) ?_
        refine TS_go 4 ?_
        refine TS_fitU ⟨[(6, []), (7, [])], [(21, (900001, [])), (6, (6, []))]⟩ (by kernel_rfl) ?_
        refine TS_go 1 ?_
        have ret := Option.some.inj h
        subst ret
        exact TS_ret (by kernel_rfl) (by kernel_rfl) (by kernel_rfl)
end
section
open Go.RowKit
attribute [local irreducible] TS go TD goD

/-- multihop/management.ValidReports -/
noncomputable def F_management_ValidReports_l1 (a0 : List S_Diagnostic) (s2 : Int × Int) : Option ((Int × Int) ⊕ ((Unit) ⊕ (Bool))) :=
  bif (decide (s2.2 < (List.length a0 : Int))) then
    (idx a0 s2.2).bind fun e6 =>
    bif (decide (e6.Node ≤ s2.1)) then
      some (Sum.inr (Sum.inr false))
    else
      (F_management_validNumber e6.Number).bind fun v8 =>
      bif v8 then
        bif (decide ((List.length e6.Data : Int) > 64)) then
          some (Sum.inr (Sum.inr false))
        else
          some (Sum.inl (e6.Node, IntKind.wrap .i64 (s2.2 + 1)))
      else
        some (Sum.inr (Sum.inr false))
  else
    some (Sum.inr (Sum.inl ()))
noncomputable def F_management_ValidReports (a0 : List S_Diagnostic) : Option (Bool) :=
  bif (decide ((List.length a0 : Int) > 64)) then
    some (false)
  else
    (loopO (F_management_ValidReports_l1 a0) (0, 0)).bind (Sum.elim (fun b3 =>
      some (true)
    ) (fun w11 => some w11))
set_option maxRecDepth 100000 in
set_option maxHeartbeats 40000000 in
theorem ok_management_ValidReports (a0 : List S_Diagnostic) (r : Bool) (h : F_management_ValidReports a0 = some r) : Con Try.prog 33 [.c (eS 3 S_Diagnostic.cs (a0))] [] (.c (.lit (.bool (r)))) [] := by
  unfold F_management_ValidReports at h
  refine con_of [] [] 34 Try.func33 rfl rfl (by kernel_rfl) (fun K => ?_)
  refine TS_go 11 ?_
  replace h := condO h
  rcases h with ⟨hb1, h⟩ | ⟨hb1, h⟩
  · refine TS_know 8 (b := true) hb1 (by kernel_rfl) (by kernel_rfl) ?_
    refine TS_T (by kernel_rfl) rfl ?_
    refine TS_go 6 ?_
    have ret := Option.some.inj h
    subst ret
    exact TS_ret (by kernel_rfl) (by kernel_rfl) (by kernel_rfl)
  · refine TS_know 8 (b := false) hb1 (by kernel_rfl) (by kernel_rfl) ?_
    refine TS_F (by kernel_rfl) rfl ?_
    refine TS_go 13 ?_
    refine TS_cut ⟨[(3, []), (9, []), (10, []), (11, [])], []⟩ (.mk [.code (codeAt [1, 1, 1, 0, 1, 0] (bodyOf Try.f33)), .blk 0, .code (codeAt [1, 1, 1, 1] (bodyOf Try.f33))] .normal ⟨[(3, .c (.lit (.int .u64 (0)))), (9, .c (.slc 3 0 (List.length a0) (List.map S_Diagnostic.cs a0))), (10, .c (.lit (.int .i64 ((List.length a0 : Int))))), (11, .c (.lit (.int .i64 (0))))], []⟩) (by kernel_rfl) (by kernel_rfl) ?_
    replace h := bindO h
    obtain ⟨y4, hl1, hK1⟩ := h
    refine TS_loopB (F_management_ValidReports_l1 a0) ⟨[(3, []), (9, []), (10, []), (11, [])], []⟩ (fun (s2 : Int × Int) => [(3, .c (.lit (.int .u64 (s2.1)))), (11, .c (.lit (.int .i64 (s2.2))))]) (fun (s2 : Int × Int) => []) (0, 0) y4 (.exit 0) (fun (b : Unit) => (Sum.inl b : (Unit) ⊕ (Bool))) ⟨[], []⟩ (fun (b3 : Unit) => []) (fun (b3 : Unit) => []) hl1 (by kernel_rfl) (by kernel_rfl) ?_ ?_
    · intro s2 x h hy1
      unfold F_management_ValidReports_l1 at h
      refine TS_go 5 ?_
      replace h := condO h
      rcases h with ⟨hb5, h⟩ | ⟨hb5, h⟩
      · refine TS_know 12 (b := true) hb5 (by kernel_rfl) (by kernel_rfl) ?_
        refine TS_T (by kernel_rfl) rfl ?_
        refine TS_go 5 ?_
        replace h := bindO h
        obtain ⟨e6, he6, h⟩ := h
        refine TS_idx S_Diagnostic.cs he6 (by kernel_rfl) (by kernel_rfl) ?_
        refine TS_go 12 ?_
        replace h := condO h
        rcases h with ⟨hb7, h⟩ | ⟨hb7, h⟩
        · refine TS_know 18 (b := true) hb7 (by kernel_rfl) (by kernel_rfl) ?_
          refine TS_know 19 (b := true) hb7 (by kernel_rfl) (by kernel_rfl) ?_
          refine TS_go 12 ?_
          refine TS_T (by kernel_rfl) rfl ?_
          refine TS_go 8 ?_
          have ret := Option.some.inj h
          subst ret
          have hy1q := hy1 _ rfl
          subst hy1q
          replace h := (elimR hK1)
          refine TS_retB rfl (by kernel_rfl) ?_
          refine TS_go 2 ?_
          have ret := Option.some.inj h
          subst ret
          exact TS_ret (by kernel_rfl) (by kernel_rfl) (by kernel_rfl)
        · refine TS_know 18 (b := false) hb7 (by kernel_rfl) (by kernel_rfl) ?_
          refine TS_know 19 (b := false) hb7 (by kernel_rfl) (by kernel_rfl) ?_
          refine TS_go 2 ?_
          replace h := bindO h
          obtain ⟨v8, hv8, h⟩ := h
          refine TS_call [] (ok_management_validNumber e6.Number v8 hv8) (by kernel_rfl) (by kernel_rfl) ?_
          refine TS_go 3 ?_
          replace h := condO h
          rcases h with ⟨hb9, h⟩ | ⟨hb9, h⟩
          · subst hb9
            refine TS_go 6 ?_
            replace h := condO h
            rcases h with ⟨hb10, h⟩ | ⟨hb10, h⟩
            · refine TS_know 29 (b := true) hb10 (by kernel_rfl) (by kernel_rfl) ?_
              refine TS_know 30 (b := true) hb10 (by kernel_rfl) (by kernel_rfl) ?_
              refine TS_T (by kernel_rfl) rfl ?_
              refine TS_go 8 ?_
              have ret := Option.some.inj h
              subst ret
              have hy1q := hy1 _ rfl
              subst hy1q
              replace h := (elimR hK1)
              refine TS_retB rfl (by kernel_rfl) ?_
              refine TS_go 2 ?_
              have ret := Option.some.inj h
              subst ret
              exact TS_ret (by kernel_rfl) (by kernel_rfl) (by kernel_rfl)
            · refine TS_know 29 (b := false) hb10 (by kernel_rfl) (by kernel_rfl) ?_
              refine TS_know 30 (b := false) hb10 (by kernel_rfl) (by kernel_rfl) ?_
              refine TS_F (by kernel_rfl) rfl ?_
              refine TS_go 11 ?_
              have ret := Option.some.inj h
              subst ret
              exact TS_againB _ ⟨[(3, []), (9, []), (10, []), (11, [])], []⟩ rfl (by kernel_rfl) (by kernel_rfl)
          · subst hb9
            refine TS_go 6 ?_
            refine TS_T (by kernel_rfl) rfl ?_
            refine TS_go 8 ?_
            have ret := Option.some.inj h
            subst ret
            have hy1q := hy1 _ rfl
            subst hy1q
            replace h := (elimR hK1)
            refine TS_retB rfl (by kernel_rfl) ?_
            refine TS_go 2 ?_
            have ret := Option.some.inj h
            subst ret
            exact TS_ret (by kernel_rfl) (by kernel_rfl) (by kernel_rfl)
      · refine TS_know 12 (b := false) hb5 (by kernel_rfl) (by kernel_rfl) ?_
        refine TS_F (by kernel_rfl) rfl ?_
        refine TS_go 2 ?_
        have ret := Option.some.inj h
        subst ret
        exact TS_brkB () ⟨[], []⟩ rfl (by kernel_rfl) (by kernel_rfl) (by kernel_rfl)
    · intro b3 hb
      subst y4
      have h := elimL hK1
      refine TS_go 6 ?_
      have ret := Option.some.inj h
      subst ret
      exact TS_ret (by kernel_rfl) (by kernel_rfl) (by kernel_rfl)

/-- multihop/management.clone -/
noncomputable def F_management_clone (a0 : S_Diagnostic) : Option (S_Diagnostic) :=
  (appO 1 ([] : List Int) (Cut.app .whole a0.Data)).bind fun l1 =>
  some ((S_Diagnostic.mk a0.Node a0.Number l1))
set_option maxRecDepth 100000 in
set_option maxHeartbeats 40000000 in
theorem okT_management_clone (a0 : S_Diagnostic) (r : S_Diagnostic) (h : F_management_clone a0 = some r) : Con Try.prog 71 [.agg (S_Diagnostic.cs a0)] [] (.agg [.lit (.int .u64 (r.Node)), .lit (.int .i64 (r.Number)), .slc 1 900004 (List.length r.Data) (List.map (ecI .u8) r.Data)]) [(900002, .spare 5 1 (List.length r.Data))] := by
  unfold F_management_clone at h
  refine con_of [] [(900002, [])] 8 Try.func71 rfl rfl (by kernel_rfl) (fun K => ?_)
  refine TS_go 9 ?_
  replace h := bindO h
  obtain ⟨_l1, hl1, h⟩ := h
  refine TS_appNT 5 5 1 (ecI .u8) (fun _ => by kernel_rfl) (l2 := a0.Data) .whole hl1 (by kernel_rfl) (by kernel_rfl) ?_
  refine TS_go 8 ?_
  refine TS_fitU ⟨[(2, [])], [(5, (900002, [])), (2, (2, []))]⟩ (by kernel_rfl) ?_
  refine TS_go 1 ?_
  have ret := Option.some.inj h
  subst ret
  exact TS_ret (by kernel_rfl) (by kernel_rfl) (by kernel_rfl)
/-- cmp.isNaN[int] -/
noncomputable def F_cmp_isNaN_int (a0 : Int) : Option (Bool) :=
  some ((a0 != a0))
set_option maxRecDepth 100000 in
set_option maxHeartbeats 40000000 in
theorem ok_cmp_isNaN_int (a0 : Int) (r : Bool) (h : F_cmp_isNaN_int a0 = some r) : Con Try.prog 85 [.c (.lit (.int .i64 (a0)))] [] (.c (.lit (.bool (r)))) [] := by
  unfold F_cmp_isNaN_int at h
  refine con_of [] [] 6 Try.func85 rfl rfl (by kernel_rfl) (fun K => ?_)
  refine TS_go 12 ?_
  have ret := Option.some.inj h
  subst ret
  exact TS_ret (by kernel_rfl) (by kernel_rfl) (by kernel_rfl)

/-- cmp.Compare[int] -/
noncomputable def F_cmp_Compare_int (a0 : Int) (a1 : Int) : Option (Int) :=
  (F_cmp_isNaN_int a0).bind fun v1 =>
  (F_cmp_isNaN_int a1).bind fun v2 =>
  bif v1 then
    bif v2 then
      some (0)
    else
      some ((-1))
  else
    bif v2 then
      some (1)
    else
      bif (decide (a0 < a1)) then
        some ((-1))
      else
        bif (decide (a0 > a1)) then
          some (1)
        else
          some (0)
set_option maxRecDepth 100000 in
set_option maxHeartbeats 40000000 in
theorem ok_cmp_Compare_int (a0 : Int) (a1 : Int) (r : Int) (h : F_cmp_Compare_int a0 a1 = some r) : Con Try.prog 77 [.c (.lit (.int .i64 (a0))), .c (.lit (.int .i64 (a1)))] [] (.c (.lit (.int .i64 (r)))) [] := by
  unfold F_cmp_Compare_int at h
  refine con_of [] [] 20 Try.func77 rfl rfl (by kernel_rfl) (fun K => ?_)
  refine TS_go 7 ?_
  replace h := bindO h
  obtain ⟨v1, hv1, h⟩ := h
  refine TS_call [] (ok_cmp_isNaN_int a0 v1 hv1) (by kernel_rfl) (by kernel_rfl) ?_
  refine TS_go 5 ?_
  replace h := bindO h
  obtain ⟨v2, hv2, h⟩ := h
  refine TS_call [] (ok_cmp_isNaN_int a1 v2 hv2) (by kernel_rfl) (by kernel_rfl) ?_
  refine TS_go 7 ?_
  replace h := condO h
  rcases h with ⟨hb3, h⟩ | ⟨hb3, h⟩
  · subst hb3
    refine TS_T (by kernel_rfl) rfl ?_
    refine TS_go 5 ?_
    replace h := condO h
    rcases h with ⟨hb4, h⟩ | ⟨hb4, h⟩
    · subst hb4
      refine TS_T (by kernel_rfl) rfl ?_
      refine TS_go 7 ?_
      have ret := Option.some.inj h
      subst ret
      exact TS_ret (by kernel_rfl) (by kernel_rfl) (by kernel_rfl)
    · subst hb4
      refine TS_F (by kernel_rfl) rfl ?_
      refine TS_go 7 ?_
      have ret := Option.some.inj h
      subst ret
      exact TS_ret (by kernel_rfl) (by kernel_rfl) (by kernel_rfl)
  · subst hb3
    refine TS_F (by kernel_rfl) rfl ?_
    refine TS_go 6 ?_
    replace h := condO h
    rcases h with ⟨hb5, h⟩ | ⟨hb5, h⟩
    · subst hb5
      refine TS_T (by kernel_rfl) rfl ?_
      refine TS_go 6 ?_
      have ret := Option.some.inj h
      subst ret
      exact TS_ret (by kernel_rfl) (by kernel_rfl) (by kernel_rfl)
    · subst hb5
      refine TS_F (by kernel_rfl) rfl ?_
      refine TS_go 8 ?_
      replace h := condO h
      rcases h with ⟨hb6, h⟩ | ⟨hb6, h⟩
      · refine TS_know 16 (b := true) hb6 (by kernel_rfl) (by kernel_rfl) ?_
        refine TS_T (by kernel_rfl) rfl ?_
        refine TS_go 6 ?_
        have ret := Option.some.inj h
        subst ret
        exact TS_ret (by kernel_rfl) (by kernel_rfl) (by kernel_rfl)
      · refine TS_know 16 (b := false) hb6 (by kernel_rfl) (by kernel_rfl) ?_
        refine TS_F (by kernel_rfl) rfl ?_
        refine TS_go 8 ?_
        replace h := condO h
        rcases h with ⟨hb7, h⟩ | ⟨hb7, h⟩
        · refine TS_know 19 (b := true) hb7 (by kernel_rfl) (by kernel_rfl) ?_
          refine TS_T (by kernel_rfl) rfl ?_
          refine TS_go 6 ?_
          have ret := Option.some.inj h
          subst ret
          exact TS_ret (by kernel_rfl) (by kernel_rfl) (by kernel_rfl)
        · refine TS_know 19 (b := false) hb7 (by kernel_rfl) (by kernel_rfl) ?_
          refine TS_F (by kernel_rfl) rfl ?_
          refine TS_go 6 ?_
          have ret := Option.some.inj h
          subst ret
          exact TS_ret (by kernel_rfl) (by kernel_rfl) (by kernel_rfl)

/-- bytes.Compare -/
noncomputable def F_bytes_Compare (a0 : List Int) (a1 : List Int) : Option (Int) :=
  some ((cmpB (Cut.app .whole a0) (Cut.app .whole a1)))
set_option maxRecDepth 100000 in
set_option maxHeartbeats 40000000 in
theorem ok_bytes_Compare (a0 : List Int) (a1 : List Int) (r : Int) (h : F_bytes_Compare a0 a1 = some r) : Con Try.prog 78 [.c (eS 1 (ecI .u8) (a0)), .c (eS 1 (ecI .u8) (a1))] [] (.c (.lit (.int .i64 (r)))) [] := by
  unfold F_bytes_Compare at h
  refine con_of [] [] 8 Try.func78 rfl rfl (by kernel_rfl) (fun K => ?_)
  refine TS_go 8 ?_
  refine TS_cmp 86 a0 a1 .whole .whole ext_86 (by kernel_rfl) (by kernel_rfl) ?_
  refine TS_go 3 ?_
  have ret := Option.some.inj h
  subst ret
  exact TS_ret (by kernel_rfl) (by kernel_rfl) (by kernel_rfl)

/-- cmp.Or[int] -/
noncomputable def F_cmp_Or_int_l1 (a0 : List Int) (s1 : Int) : Option ((Int) ⊕ ((Unit) ⊕ (Int))) :=
  bif (decide (s1 < (List.length a0 : Int))) then
    (idx a0 s1).bind fun e5 =>
    bif (e5 != 0) then
      some (Sum.inr (Sum.inr e5))
    else
      some (Sum.inl (IntKind.wrap .i64 (s1 + 1)))
  else
    some (Sum.inr (Sum.inl ()))
noncomputable def F_cmp_Or_int (a0 : List Int) : Option (Int) :=
  (loopO (F_cmp_Or_int_l1 a0) 0).bind (Sum.elim (fun b2 =>
    some (0)
  ) (fun w7 => some w7))
set_option maxRecDepth 100000 in
set_option maxHeartbeats 40000000 in
theorem ok_cmp_Or_int (a0 : List Int) (r : Int) (h : F_cmp_Or_int a0 = some r) : Con Try.prog 76 [.c (eS 1 (ecI .i64) (a0))] [] (.c (.lit (.int .i64 (r)))) [] := by
  unfold F_cmp_Or_int at h
  refine con_of [] [] 18 Try.func76 rfl rfl (by kernel_rfl) (fun K => ?_)
  refine TS_go 16 ?_
  refine TS_cut ⟨[(3, []), (6, []), (7, []), (8, [])], []⟩ (.mk [.code (codeAt [1, 1, 0, 1, 0] (bodyOf Try.f76)), .blk 0, .code (codeAt [1, 1, 1] (bodyOf Try.f76))] .normal ⟨[(3, .c (.lit (.int .i64 (0)))), (6, .c (.slc 1 0 (List.length a0) (List.map (ecI .i64) a0))), (7, .c (.lit (.int .i64 ((List.length a0 : Int))))), (8, .c (.lit (.int .i64 (0))))], []⟩) (by kernel_rfl) (by kernel_rfl) ?_
  replace h := bindO h
  obtain ⟨y3, hl1, hK1⟩ := h
  refine TS_loopB (F_cmp_Or_int_l1 a0) ⟨[(3, []), (6, []), (7, []), (8, [])], []⟩ (fun (s1 : Int) => [(8, .c (.lit (.int .i64 (s1))))]) (fun (s1 : Int) => []) 0 y3 (.exit 0) (fun (b : Unit) => (Sum.inl b : (Unit) ⊕ (Int))) ⟨[(3, [])], []⟩ (fun (b2 : Unit) => []) (fun (b2 : Unit) => []) hl1 (by kernel_rfl) (by kernel_rfl) ?_ ?_
  · intro s1 x h hy1
    unfold F_cmp_Or_int_l1 at h
    refine TS_go 5 ?_
    replace h := condO h
    rcases h with ⟨hb4, h⟩ | ⟨hb4, h⟩
    · refine TS_know 9 (b := true) hb4 (by kernel_rfl) (by kernel_rfl) ?_
      refine TS_T (by kernel_rfl) rfl ?_
      refine TS_go 5 ?_
      replace h := bindO h
      obtain ⟨_e5, he5, h⟩ := h
      refine TS_idx (ecI .i64) he5 (by kernel_rfl) (by kernel_rfl) ?_
      refine TS_go 9 ?_
      replace h := condO h
      rcases h with ⟨hb6, h⟩ | ⟨hb6, h⟩
      · refine TS_know 14 (b := true) hb6 (by kernel_rfl) (by kernel_rfl) ?_
        refine TS_T (by kernel_rfl) rfl ?_
        refine TS_go 8 ?_
        have ret := Option.some.inj h
        subst ret
        have hy1q := hy1 _ rfl
        subst hy1q
        replace h := (elimR hK1)
        refine TS_retB rfl (by kernel_rfl) ?_
        refine TS_go 2 ?_
        have ret := Option.some.inj h
        subst ret
        exact TS_ret (by kernel_rfl) (by kernel_rfl) (by kernel_rfl)
      · refine TS_know 14 (b := false) hb6 (by kernel_rfl) (by kernel_rfl) ?_
        refine TS_F (by kernel_rfl) rfl ?_
        refine TS_go 6 ?_
        have ret := Option.some.inj h
        subst ret
        exact TS_againB _ ⟨[(3, []), (6, []), (7, []), (8, [])], []⟩ rfl (by kernel_rfl) (by kernel_rfl)
    · refine TS_know 9 (b := false) hb4 (by kernel_rfl) (by kernel_rfl) ?_
      refine TS_F (by kernel_rfl) rfl ?_
      refine TS_go 2 ?_
      have ret := Option.some.inj h
      subst ret
      exact TS_brkB () ⟨[(3, [])], []⟩ rfl (by kernel_rfl) (by kernel_rfl) (by kernel_rfl)
  · intro b2 hb
    subst y3
    have h := elimL hK1
    refine TS_go 7 ?_
    have ret := Option.some.inj h
    subst ret
    exact TS_ret (by kernel_rfl) (by kernel_rfl) (by kernel_rfl)

/-- multihop/management.better -/
noncomputable def F_management_better (a0 : S_Diagnostic) (a1 : S_Diagnostic) : Option (Bool) :=
  (F_cmp_Compare_int a0.Number a1.Number).bind fun v1 =>
  (F_bytes_Compare a0.Data a1.Data).bind fun v2 =>
  (F_cmp_Or_int ([v1, v2] : List Int)).bind fun v3 =>
  some ((decide (v3 > 0)))
set_option maxRecDepth 100000 in
set_option maxHeartbeats 40000000 in
theorem ok_management_better (a0 : S_Diagnostic) (a1 : S_Diagnostic) (r : Bool) (h : F_management_better a0 a1 = some r) : Con Try.prog 72 [.agg (S_Diagnostic.cs a0), .agg (S_Diagnostic.cs a1)] [] (.c (.lit (.bool (r)))) [] := by
  unfold F_management_better at h
  refine con_of [] [] 18 Try.func72 rfl rfl (by kernel_rfl) (fun K => ?_)
  refine TS_go 7 ?_
  refine TS_draw (by kernel_rfl) ?_
  refine TD_go 4 ?_
  replace h := bindO h
  obtain ⟨v1, hv1, h⟩ := h
  refine TD_call [] (ok_cmp_Compare_int a0.Number a1.Number v1 hv1) (by kernel_rfl) (by kernel_rfl) ?_
  refine TD_go 4 ?_
  replace h := bindO h
  obtain ⟨v2, hv2, h⟩ := h
  refine TD_call [] (ok_bytes_Compare a0.Data a1.Data v2 hv2) (by kernel_rfl) (by kernel_rfl) ?_
  refine TD_litNT 15 3 1 (ecI .i64) [] ([v1, v2] : List Int) (by kernel_rfl) (by kernel_rfl) ?_
  replace h := bindO h
  obtain ⟨v3, hv3, h⟩ := h
  refine TD_call [[2]] (ok_cmp_Or_int ([v1, v2] : List Int) v3 hv3) (by kernel_rfl) (by kernel_rfl) ?_
  refine TD_go 2 ?_
  refine TD_end (by kernel_rfl) ?_
  refine TS_go 1 ?_
  have ret := Option.some.inj h
  subst ret
  exact TS_ret (by kernel_rfl) (by kernel_rfl) (by kernel_rfl)

/-- multihop/management.union -/
noncomputable def F_management_union_j2 (s1 : (List S_Diagnostic) × (List S_Diagnostic) × (List S_Diagnostic)) (v30 : S_Diagnostic) : Option (((List S_Diagnostic) × (List S_Diagnostic) × (List S_Diagnostic)) ⊕ ((List S_Diagnostic))) :=
  (F_management_clone v30).bind fun v31 =>
  (appO 40 s1.2.2 (Cut.app .whole ([v31] : List S_Diagnostic))).bind fun l32 =>
  (subO s1.1 1 (List.length s1.1 : Int)).bind fun l33 =>
  (subO s1.2.1 1 (List.length s1.2.1 : Int)).bind fun l34 =>
  some (Sum.inl (l33, l34, l32))
noncomputable def F_management_union_j3 (s1 : (List S_Diagnostic) × (List S_Diagnostic) × (List S_Diagnostic)) (v59 : S_Diagnostic) : Option (((List S_Diagnostic) × (List S_Diagnostic) × (List S_Diagnostic)) ⊕ ((List S_Diagnostic))) :=
  (F_management_clone v59).bind fun v60 =>
  (appO 40 s1.2.2 (Cut.app .whole ([v60] : List S_Diagnostic))).bind fun l61 =>
  (subO s1.1 1 (List.length s1.1 : Int)).bind fun l62 =>
  (subO s1.2.1 1 (List.length s1.2.1 : Int)).bind fun l63 =>
  some (Sum.inl (l62, l63, l61))
noncomputable def F_management_union_l1  (s1 : (List S_Diagnostic) × (List S_Diagnostic) × (List S_Diagnostic)) : Option (((List S_Diagnostic) × (List S_Diagnostic) × (List S_Diagnostic)) ⊕ ((List S_Diagnostic))) :=
  bif (decide ((List.length s1.1 : Int) > 0)) then
    bif ((List.length s1.2.1 : Int) == 0) then
      (idx s1.1 0).bind fun e6 =>
      (F_management_clone e6).bind fun v7 =>
      (appO 40 s1.2.2 (Cut.app .whole ([v7] : List S_Diagnostic))).bind fun l8 =>
      (subO s1.1 1 (List.length s1.1 : Int)).bind fun l9 =>
      some (Sum.inl (l9, s1.2.1, l8))
    else
      (idx s1.1 0).bind fun e10 =>
      (idx s1.2.1 0).bind fun e11 =>
      bif (decide (e10.Node < e11.Node)) then
        (idx s1.1 0).bind fun e13 =>
        (F_management_clone e13).bind fun v14 =>
        (appO 40 s1.2.2 (Cut.app .whole ([v14] : List S_Diagnostic))).bind fun l15 =>
        (subO s1.1 1 (List.length s1.1 : Int)).bind fun l16 =>
        some (Sum.inl (l16, s1.2.1, l15))
      else
        bif ((List.length s1.1 : Int) == 0) then
          (idx s1.2.1 0).bind fun e18 =>
          (F_management_clone e18).bind fun v19 =>
          (appO 40 s1.2.2 (Cut.app .whole ([v19] : List S_Diagnostic))).bind fun l20 =>
          (subO s1.2.1 1 (List.length s1.2.1 : Int)).bind fun l21 =>
          some (Sum.inl (s1.1, l21, l20))
        else
          (idx s1.2.1 0).bind fun e22 =>
          (idx s1.1 0).bind fun e23 =>
          bif (decide (e22.Node < e23.Node)) then
            (idx s1.2.1 0).bind fun e25 =>
            (F_management_clone e25).bind fun v26 =>
            (appO 40 s1.2.2 (Cut.app .whole ([v26] : List S_Diagnostic))).bind fun l27 =>
            (subO s1.2.1 1 (List.length s1.2.1 : Int)).bind fun l28 =>
            some (Sum.inl (s1.1, l28, l27))
          else
            (idx s1.1 0).bind fun e29 =>
            (idx s1.2.1 0).bind fun e35 =>
            (idx s1.1 0).bind fun e36 =>
            (F_management_better e35 e36).bind fun v37 =>
            bif v37 then
              (idx s1.2.1 0).bind fun e39 =>
              (F_management_union_j2 s1) e39
            else
              (F_management_union_j2 s1) e29
  else
    bif (decide ((List.length s1.2.1 : Int) > 0)) then
      bif ((List.length s1.2.1 : Int) == 0) then
        (idx s1.1 0).bind fun e42 =>
        (F_management_clone e42).bind fun v43 =>
        (appO 40 s1.2.2 (Cut.app .whole ([v43] : List S_Diagnostic))).bind fun l44 =>
        (subO s1.1 1 (List.length s1.1 : Int)).bind fun l45 =>
        some (Sum.inl (l45, s1.2.1, l44))
      else
        bif ((List.length s1.1 : Int) == 0) then
          (idx s1.2.1 0).bind fun e47 =>
          (F_management_clone e47).bind fun v48 =>
          (appO 40 s1.2.2 (Cut.app .whole ([v48] : List S_Diagnostic))).bind fun l49 =>
          (subO s1.2.1 1 (List.length s1.2.1 : Int)).bind fun l50 =>
          some (Sum.inl (s1.1, l50, l49))
        else
          (idx s1.2.1 0).bind fun e51 =>
          (idx s1.1 0).bind fun e52 =>
          bif (decide (e51.Node < e52.Node)) then
            (idx s1.2.1 0).bind fun e54 =>
            (F_management_clone e54).bind fun v55 =>
            (appO 40 s1.2.2 (Cut.app .whole ([v55] : List S_Diagnostic))).bind fun l56 =>
            (subO s1.2.1 1 (List.length s1.2.1 : Int)).bind fun l57 =>
            some (Sum.inl (s1.1, l57, l56))
          else
            (idx s1.1 0).bind fun e58 =>
            (idx s1.2.1 0).bind fun e64 =>
            (idx s1.1 0).bind fun e65 =>
            (F_management_better e64 e65).bind fun v66 =>
            bif v66 then
              (idx s1.2.1 0).bind fun e68 =>
              (F_management_union_j3 s1) e68
            else
              (F_management_union_j3 s1) e58
    else
      some (Sum.inr s1.2.2)
noncomputable def F_management_union (a0 : List S_Diagnostic) (a1 : List S_Diagnostic) : Option ((List S_Diagnostic)) :=
  (loopO (F_management_union_l1) (a0, a1, ([] : List S_Diagnostic))).bind fun b2 =>
  some (b2)
set_option maxRecDepth 100000 in
set_option maxHeartbeats 40000000 in
theorem okT_management_union (a0 : List S_Diagnostic) (a1 : List S_Diagnostic) (r : (List S_Diagnostic)) (h : F_management_union a0 a1 = some r) : Con Try.prog 55 [.c (eS 3 S_Diagnostic.cs (a0)), .c (eS 3 S_Diagnostic.cs (a1))] [] (.c (.slc 3 900002 (List.length r) (List.map S_Diagnostic.cs r))) [(900000, .spare 56 3 (List.length r))] := by
  unfold F_management_union at h
  refine con_of [] [(900000, [])] 91 Try.func55 rfl rfl (by kernel_rfl) (fun K => ?_)
  refine TS_go 10 ?_
  refine TS_nilT 5 600000 56 3 (by kernel_rfl) ?_
  refine TS_cut ⟨[(0, []), (1, []), (5, [])], [(600000, (600000, []))]⟩ (.mk [.code (codeAt [1, 1, 0, 0] (bodyOf Try.f55)), .blk 0, .code (codeAt [1, 1, 1] (bodyOf Try.f55))] .normal ⟨[(0, .c (.slc 3 0 (List.length a0) (List.map S_Diagnostic.cs a0))), (1, .c (.slc 3 0 (List.length a1) (List.map S_Diagnostic.cs a1))), (5, .c (.slc 3 600002 (List.length ([] : List S_Diagnostic)) (List.map S_Diagnostic.cs ([] : List S_Diagnostic))))], [(600000, .spare 56 3 (List.length ([] : List S_Diagnostic)))]⟩) (by kernel_rfl) (by kernel_rfl) ?_
  replace h := bindO h
  obtain ⟨y3, hl1, hK1⟩ := h
  refine TS_loopB (F_management_union_l1) ⟨[(0, []), (1, []), (5, [])], [(600000, (600000, []))]⟩ (fun (s1 : (List S_Diagnostic) × (List S_Diagnostic) × (List S_Diagnostic)) => [(0, .c (eS 3 S_Diagnostic.cs (s1.1))), (1, .c (eS 3 S_Diagnostic.cs (s1.2.1))), (5, .c (.slc 3 600002 (List.length s1.2.2) (List.map S_Diagnostic.cs s1.2.2)))]) (fun (s1 : (List S_Diagnostic) × (List S_Diagnostic) × (List S_Diagnostic)) => [(600000, .spare 56 3 (List.length s1.2.2))]) (a0, a1, ([] : List S_Diagnostic)) y3 (.exit 0) (fun (b : (List S_Diagnostic)) => b) ⟨[(5, [])], [(600000, (600000, []))]⟩ (fun (b2 : (List S_Diagnostic)) => [(5, .c (.slc 3 600002 (List.length b2) (List.map S_Diagnostic.cs b2)))]) (fun (b2 : (List S_Diagnostic)) => [(600000, .spare 56 3 (List.length b2))]) hl1 (by kernel_rfl) (by kernel_rfl) ?_ ?_
  · intro s1 x h hy1
    unfold F_management_union_l1 at h
    refine TS_go 7 ?_
    replace h := condO h
    rcases h with ⟨hb4, h⟩ | ⟨hb4, h⟩
    · refine TS_know 9 (b := true) hb4 (by kernel_rfl) (by kernel_rfl) ?_
      refine TS_know 10 (b := true) hb4 (by kernel_rfl) (by kernel_rfl) ?_
      refine TS_go 5 ?_
      refine TS_T (by kernel_rfl) rfl ?_
      refine TS_go 4 ?_
      refine TS_draw (by kernel_rfl) ?_
      refine TD_go 3 ?_
      replace h := condO h
      rcases h with ⟨hb5, h⟩ | ⟨hb5, h⟩
      · refine TD_know 41 (b := true) hb5 trivial (by kernel_rfl) (by kernel_rfl) ?_
        refine TD_go 16 ?_
        refine TD_end (by kernel_rfl) ?_
        refine TS_T (by kernel_rfl) rfl ?_
        refine TS_go 4 ?_
        replace h := bindO h
        obtain ⟨e6, he6, h⟩ := h
        refine TS_idx S_Diagnostic.cs he6 (by kernel_rfl) (by kernel_rfl) ?_
        refine TS_go 1 ?_
        replace h := bindO h
        obtain ⟨v7, hv7, h⟩ := h
        refine TS_con [] [(61, 900002)] none (okT_management_clone e6 v7 hv7) (by kernel_rfl) (by kernel_rfl) (by kernel_rfl) ?_
        refine TS_litNT 62 56 3 S_Diagnostic.cs [0, 0, 2] ([v7] : List S_Diagnostic) (by kernel_rfl) (by kernel_rfl) ?_
        replace h := bindO h
        obtain ⟨_l8, hl8, h⟩ := h
        refine TS_appT (d := 600000) (e := 56) (sz := 3) (N := List.length s1.2.2) S_Diagnostic.cs (fun _ => by kernel_rfl) (l1 := s1.2.2) (l2 := ([v7] : List S_Diagnostic)) (c := .whole) hl8 (by kernel_rfl) (by kernel_rfl) ?_
        refine TS_go 4 ?_
        replace h := bindO h
        obtain ⟨_l9, hl9, h⟩ := h
        refine TS_sub S_Diagnostic.cs 3 hl9 (by kernel_rfl) (by kernel_rfl) ?_
        refine TS_go 4 ?_
        have ret := Option.some.inj h
        subst ret
        exact TS_againB _ ⟨[(0, []), (1, []), (5, [])], [(600000, (600000, []))]⟩ rfl (by kernel_rfl) (by kernel_rfl)
      · refine TD_know 41 (b := false) hb5 trivial (by kernel_rfl) (by kernel_rfl) ?_
        refine TD_go 2 ?_
        refine TD_know 44 (b := true) hb4 trivial (by kernel_rfl) (by kernel_rfl) ?_
        refine TD_go 2 ?_
        replace h := bindO h
        obtain ⟨_e10, he10, h⟩ := h
        refine TD_idx S_Diagnostic.cs he10 (by kernel_rfl) (by kernel_rfl) ?_
        refine TD_go 3 ?_
        replace h := bindO h
        obtain ⟨_e11, he11, h⟩ := h
        refine TD_idx S_Diagnostic.cs he11 (by kernel_rfl) (by kernel_rfl) ?_
        refine TD_go 6 ?_
        refine TD_end (by kernel_rfl) ?_
        replace h := condO h
        rcases h with ⟨hb12, h⟩ | ⟨hb12, h⟩
        · refine TS_know 40 (b := false) hb5 (by kernel_rfl) (by kernel_rfl) ?_
          refine TS_know 54 (b := true) hb12 (by kernel_rfl) (by kernel_rfl) ?_
          refine TS_know 55 (b := true) hb12 (by kernel_rfl) (by kernel_rfl) ?_
          refine TS_know 56 (b := true) hb12 (by kernel_rfl) (by kernel_rfl) ?_
          refine TS_know 37 (b := true) hb12 (by kernel_rfl) (by kernel_rfl) ?_
          refine TS_T (by kernel_rfl) rfl ?_
          refine TS_go 4 ?_
          replace h := bindO h
          obtain ⟨e13, he13, h⟩ := h
          refine TS_idx S_Diagnostic.cs he13 (by kernel_rfl) (by kernel_rfl) ?_
          refine TS_go 1 ?_
          replace h := bindO h
          obtain ⟨v14, hv14, h⟩ := h
          refine TS_con [] [(61, 900002)] none (okT_management_clone e13 v14 hv14) (by kernel_rfl) (by kernel_rfl) (by kernel_rfl) ?_
          refine TS_litNT 62 56 3 S_Diagnostic.cs [0, 0, 2] ([v14] : List S_Diagnostic) (by kernel_rfl) (by kernel_rfl) ?_
          replace h := bindO h
          obtain ⟨_l15, hl15, h⟩ := h
          refine TS_appT (d := 600000) (e := 56) (sz := 3) (N := List.length s1.2.2) S_Diagnostic.cs (fun _ => by kernel_rfl) (l1 := s1.2.2) (l2 := ([v14] : List S_Diagnostic)) (c := .whole) hl15 (by kernel_rfl) (by kernel_rfl) ?_
          refine TS_go 4 ?_
          replace h := bindO h
          obtain ⟨_l16, hl16, h⟩ := h
          refine TS_sub S_Diagnostic.cs 3 hl16 (by kernel_rfl) (by kernel_rfl) ?_
          refine TS_go 4 ?_
          have ret := Option.some.inj h
          subst ret
          exact TS_againB _ ⟨[(0, []), (1, []), (5, [])], [(600000, (600000, []))]⟩ rfl (by kernel_rfl) (by kernel_rfl)
        · refine TS_know 40 (b := false) hb5 (by kernel_rfl) (by kernel_rfl) ?_
          refine TS_know 54 (b := false) hb12 (by kernel_rfl) (by kernel_rfl) ?_
          refine TS_know 55 (b := false) hb12 (by kernel_rfl) (by kernel_rfl) ?_
          refine TS_know 56 (b := false) hb12 (by kernel_rfl) (by kernel_rfl) ?_
          refine TS_know 37 (b := false) hb12 (by kernel_rfl) (by kernel_rfl) ?_
          refine TS_F (by kernel_rfl) rfl ?_
          refine TS_go 1 ?_
          refine TS_draw (by kernel_rfl) ?_
          refine TD_go 3 ?_
          replace h := condO h
          rcases h with ⟨hb17, h⟩ | ⟨hb17, h⟩
          · refine TD_know 70 (b := true) hb17 trivial (by kernel_rfl) (by kernel_rfl) ?_
            refine TD_go 11 ?_
            refine TD_end (by kernel_rfl) ?_
            refine TS_T (by kernel_rfl) rfl ?_
            refine TS_go 4 ?_
            replace h := bindO h
            obtain ⟨e18, he18, h⟩ := h
            refine TS_idx S_Diagnostic.cs he18 (by kernel_rfl) (by kernel_rfl) ?_
            refine TS_go 1 ?_
            replace h := bindO h
            obtain ⟨v19, hv19, h⟩ := h
            refine TS_con [] [(85, 900002)] none (okT_management_clone e18 v19 hv19) (by kernel_rfl) (by kernel_rfl) (by kernel_rfl) ?_
            refine TS_litNT 86 56 3 S_Diagnostic.cs [0, 0, 2] ([v19] : List S_Diagnostic) (by kernel_rfl) (by kernel_rfl) ?_
            replace h := bindO h
            obtain ⟨_l20, hl20, h⟩ := h
            refine TS_appT (d := 600000) (e := 56) (sz := 3) (N := List.length s1.2.2) S_Diagnostic.cs (fun _ => by kernel_rfl) (l1 := s1.2.2) (l2 := ([v19] : List S_Diagnostic)) (c := .whole) hl20 (by kernel_rfl) (by kernel_rfl) ?_
            refine TS_go 4 ?_
            replace h := bindO h
            obtain ⟨_l21, hl21, h⟩ := h
            refine TS_sub S_Diagnostic.cs 3 hl21 (by kernel_rfl) (by kernel_rfl) ?_
            refine TS_go 4 ?_
            have ret := Option.some.inj h
            subst ret
            exact TS_againB _ ⟨[(0, []), (1, []), (5, [])], [(600000, (600000, []))]⟩ rfl (by kernel_rfl) (by kernel_rfl)
          · refine TD_know 70 (b := false) hb17 trivial (by kernel_rfl) (by kernel_rfl) ?_
            refine TD_go 1 ?_
            replace h := bindO h
            obtain ⟨_e22, he22, h⟩ := h
            refine TD_idx S_Diagnostic.cs he22 (by kernel_rfl) (by kernel_rfl) ?_
            refine TD_go 3 ?_
            replace h := bindO h
            obtain ⟨_e23, he23, h⟩ := h
            refine TD_idx S_Diagnostic.cs he23 (by kernel_rfl) (by kernel_rfl) ?_
            refine TD_go 5 ?_
            refine TD_end (by kernel_rfl) ?_
            replace h := condO h
            rcases h with ⟨hb24, h⟩ | ⟨hb24, h⟩
            · refine TS_know 69 (b := false) hb17 (by kernel_rfl) (by kernel_rfl) ?_
              refine TS_know 79 (b := true) hb24 (by kernel_rfl) (by kernel_rfl) ?_
              refine TS_know 80 (b := true) hb24 (by kernel_rfl) (by kernel_rfl) ?_
              refine TS_know 66 (b := true) hb24 (by kernel_rfl) (by kernel_rfl) ?_
              refine TS_T (by kernel_rfl) rfl ?_
              refine TS_go 4 ?_
              replace h := bindO h
              obtain ⟨e25, he25, h⟩ := h
              refine TS_idx S_Diagnostic.cs he25 (by kernel_rfl) (by kernel_rfl) ?_
              refine TS_go 1 ?_
              replace h := bindO h
              obtain ⟨v26, hv26, h⟩ := h
              refine TS_con [] [(85, 900002)] none (okT_management_clone e25 v26 hv26) (by kernel_rfl) (by kernel_rfl) (by kernel_rfl) ?_
              refine TS_litNT 86 56 3 S_Diagnostic.cs [0, 0, 2] ([v26] : List S_Diagnostic) (by kernel_rfl) (by kernel_rfl) ?_
              replace h := bindO h
              obtain ⟨_l27, hl27, h⟩ := h
              refine TS_appT (d := 600000) (e := 56) (sz := 3) (N := List.length s1.2.2) S_Diagnostic.cs (fun _ => by kernel_rfl) (l1 := s1.2.2) (l2 := ([v26] : List S_Diagnostic)) (c := .whole) hl27 (by kernel_rfl) (by kernel_rfl) ?_
              refine TS_go 4 ?_
              replace h := bindO h
              obtain ⟨_l28, hl28, h⟩ := h
              refine TS_sub S_Diagnostic.cs 3 hl28 (by kernel_rfl) (by kernel_rfl) ?_
              refine TS_go 4 ?_
              have ret := Option.some.inj h
              subst ret
              exact TS_againB _ ⟨[(0, []), (1, []), (5, [])], [(600000, (600000, []))]⟩ rfl (by kernel_rfl) (by kernel_rfl)
            · refine TS_know 69 (b := false) hb17 (by kernel_rfl) (by kernel_rfl) ?_
              refine TS_know 79 (b := false) hb24 (by kernel_rfl) (by kernel_rfl) ?_
              refine TS_know 80 (b := false) hb24 (by kernel_rfl) (by kernel_rfl) ?_
              refine TS_know 66 (b := false) hb24 (by kernel_rfl) (by kernel_rfl) ?_
              refine TS_F (by kernel_rfl) rfl ?_
              refine TS_go 3 ?_
              replace h := bindO h
              obtain ⟨e29, he29, h⟩ := h
              refine TS_idx S_Diagnostic.cs he29 (by kernel_rfl) (by kernel_rfl) ?_
              refine TS_go 4 ?_
              refine TS_cut ⟨[(0, []), (1, []), (5, []), (6, [])], [(600000, (600000, [])), (6, (6, []))]⟩ (.mk [.code (codeAt [1, 1, 0, 0, 0, 1, 0, 0, 1, 1, 1, 1, 1] (bodyOf Try.f55)), .blk 2, .blk 1] .normal ⟨[(0, .c (.slc 3 0 (List.length s1.1) (List.map S_Diagnostic.cs s1.1))), (1, .c (.slc 3 0 (List.length s1.2.1) (List.map S_Diagnostic.cs s1.2.1))), (5, .c (.slc 3 600002 (List.length s1.2.2) (List.map S_Diagnostic.cs s1.2.2))), (6, .c (.box 6 0))], [(600000, .spare 56 3 (List.length s1.2.2)), (6, .box [.lit (.int .u64 (e29.Node)), .lit (.int .i64 (e29.Number)), .slc 1 0 (List.length e29.Data) (List.map (ecI .u8) e29.Data)])]⟩) (by kernel_rfl) (by kernel_rfl) ?_
              refine TS_joinB ⟨[(0, []), (1, []), (5, []), (6, [])], [(600000, (600000, [])), (6, (6, []))]⟩ (fun (v30 : S_Diagnostic) => []) (fun (v30 : S_Diagnostic) => [(6, .box (S_Diagnostic.cs v30))]) (F_management_union_j2 s1) x ?_ ?_
              · clear h
                intro v30 h
                unfold F_management_union_j2 at h
                refine TS_go 4 ?_
                replace h := bindO h
                obtain ⟨v31, hv31, h⟩ := h
                refine TS_con [] [(30, 900002)] none (okT_management_clone v30 v31 hv31) (by kernel_rfl) (by kernel_rfl) (by kernel_rfl) ?_
                refine TS_litNT 31 56 3 S_Diagnostic.cs [0, 0, 2] ([v31] : List S_Diagnostic) (by kernel_rfl) (by kernel_rfl) ?_
                replace h := bindO h
                obtain ⟨_l32, hl32, h⟩ := h
                refine TS_appT (d := 600000) (e := 56) (sz := 3) (N := List.length s1.2.2) S_Diagnostic.cs (fun _ => by kernel_rfl) (l1 := s1.2.2) (l2 := ([v31] : List S_Diagnostic)) (c := .whole) hl32 (by kernel_rfl) (by kernel_rfl) ?_
                refine TS_go 2 ?_
                refine TS_draw (by kernel_rfl) ?_
                refine TD_go 1 ?_
                replace h := bindO h
                obtain ⟨_l33, hl33, h⟩ := h
                refine TD_sub S_Diagnostic.cs 3 hl33 (by kernel_rfl) (by kernel_rfl) ?_
                refine TD_go 1 ?_
                replace h := bindO h
                obtain ⟨_l34, hl34, h⟩ := h
                refine TD_sub S_Diagnostic.cs 3 hl34 (by kernel_rfl) (by kernel_rfl) ?_
                refine TD_go 2 ?_
                refine TD_end (by kernel_rfl) ?_
                refine TS_go 2 ?_
                have ret := Option.some.inj h
                subst ret
                exact TS_againB _ ⟨[(0, []), (1, []), (5, [])], [(600000, (600000, []))]⟩ rfl (by kernel_rfl) (by kernel_rfl)
              · refine TS_go 1 ?_
                refine TS_draw (by kernel_rfl) ?_
                refine TD_go 1 ?_
                replace h := bindO h
                obtain ⟨e35, he35, h⟩ := h
                refine TD_idx S_Diagnostic.cs he35 (by kernel_rfl) (by kernel_rfl) ?_
                refine TD_go 2 ?_
                replace h := bindO h
                obtain ⟨e36, he36, h⟩ := h
                refine TD_idx S_Diagnostic.cs he36 (by kernel_rfl) (by kernel_rfl) ?_
                refine TD_go 1 ?_
                replace h := bindO h
                obtain ⟨v37, hv37, h⟩ := h
                refine TD_call [] (ok_management_better e35 e36 v37 hv37) (by kernel_rfl) (by kernel_rfl) ?_
                refine TD_end (by kernel_rfl) ?_
                replace h := condO h
                rcases h with ⟨hb38, h⟩ | ⟨hb38, h⟩
                · subst hb38
                  refine TS_T (by kernel_rfl) rfl ?_
                  refine TS_go 2 ?_
                  replace h := bindO h
                  obtain ⟨e39, he39, h⟩ := h
                  refine TS_idx S_Diagnostic.cs he39 (by kernel_rfl) (by kernel_rfl) ?_
                  refine TS_go 3 ?_
                  exact TS_meet e39 ⟨[(0, []), (1, []), (5, []), (6, [])], [(600000, (600000, [])), (6, (6, []))]⟩ h (by kernel_rfl) (by kernel_rfl)
                · subst hb38
                  refine TS_F (by kernel_rfl) rfl ?_
                  refine TS_go 1 ?_
                  exact TS_meet e29 ⟨[(0, []), (1, []), (5, []), (6, [])], [(600000, (600000, [])), (6, (6, []))]⟩ h (by kernel_rfl) (by kernel_rfl)
    · refine TS_know 9 (b := false) hb4 (by kernel_rfl) (by kernel_rfl) ?_
      refine TS_know 10 (b := false) hb4 (by kernel_rfl) (by kernel_rfl) ?_
      refine TS_go 5 ?_
      replace h := condO h
      rcases h with ⟨hb40, h⟩ | ⟨hb40, h⟩
      · refine TS_know 13 (b := true) hb40 (by kernel_rfl) (by kernel_rfl) ?_
        refine TS_know 14 (b := true) hb40 (by kernel_rfl) (by kernel_rfl) ?_
        refine TS_T (by kernel_rfl) rfl ?_
        refine TS_go 4 ?_
        refine TS_draw (by kernel_rfl) ?_
        refine TD_go 3 ?_
        replace h := condO h
        rcases h with ⟨hb41, h⟩ | ⟨hb41, h⟩
        · refine TD_know 41 (b := true) hb41 trivial (by kernel_rfl) (by kernel_rfl) ?_
          refine TD_go 16 ?_
          refine TD_end (by kernel_rfl) ?_
          refine TS_T (by kernel_rfl) rfl ?_
          refine TS_go 4 ?_
          replace h := bindO h
          obtain ⟨e42, he42, h⟩ := h
          refine TS_idx S_Diagnostic.cs he42 (by kernel_rfl) (by kernel_rfl) ?_
          refine TS_go 1 ?_
          replace h := bindO h
          obtain ⟨v43, hv43, h⟩ := h
          refine TS_con [] [(61, 900002)] none (okT_management_clone e42 v43 hv43) (by kernel_rfl) (by kernel_rfl) (by kernel_rfl) ?_
          refine TS_litNT 62 56 3 S_Diagnostic.cs [0, 0, 2] ([v43] : List S_Diagnostic) (by kernel_rfl) (by kernel_rfl) ?_
          replace h := bindO h
          obtain ⟨_l44, hl44, h⟩ := h
          refine TS_appT (d := 600000) (e := 56) (sz := 3) (N := List.length s1.2.2) S_Diagnostic.cs (fun _ => by kernel_rfl) (l1 := s1.2.2) (l2 := ([v43] : List S_Diagnostic)) (c := .whole) hl44 (by kernel_rfl) (by kernel_rfl) ?_
          refine TS_go 4 ?_
          replace h := bindO h
          obtain ⟨_l45, hl45, h⟩ := h
          refine TS_sub S_Diagnostic.cs 3 hl45 (by kernel_rfl) (by kernel_rfl) ?_
          refine TS_go 4 ?_
          have ret := Option.some.inj h
          subst ret
          exact TS_againB _ ⟨[(0, []), (1, []), (5, [])], [(600000, (600000, []))]⟩ rfl (by kernel_rfl) (by kernel_rfl)
        · refine TD_know 41 (b := false) hb41 trivial (by kernel_rfl) (by kernel_rfl) ?_
          refine TD_go 2 ?_
          refine TD_know 44 (b := false) hb4 trivial (by kernel_rfl) (by kernel_rfl) ?_
          refine TD_go 13 ?_
          refine TD_end (by kernel_rfl) ?_
          refine TS_F (by kernel_rfl) rfl ?_
          refine TS_go 1 ?_
          refine TS_draw (by kernel_rfl) ?_
          refine TD_go 3 ?_
          replace h := condO h
          rcases h with ⟨hb46, h⟩ | ⟨hb46, h⟩
          · refine TD_know 70 (b := true) hb46 trivial (by kernel_rfl) (by kernel_rfl) ?_
            refine TD_go 11 ?_
            refine TD_end (by kernel_rfl) ?_
            refine TS_T (by kernel_rfl) rfl ?_
            refine TS_go 4 ?_
            replace h := bindO h
            obtain ⟨e47, he47, h⟩ := h
            refine TS_idx S_Diagnostic.cs he47 (by kernel_rfl) (by kernel_rfl) ?_
            refine TS_go 1 ?_
            replace h := bindO h
            obtain ⟨v48, hv48, h⟩ := h
            refine TS_con [] [(85, 900002)] none (okT_management_clone e47 v48 hv48) (by kernel_rfl) (by kernel_rfl) (by kernel_rfl) ?_
            refine TS_litNT 86 56 3 S_Diagnostic.cs [0, 0, 2] ([v48] : List S_Diagnostic) (by kernel_rfl) (by kernel_rfl) ?_
            replace h := bindO h
            obtain ⟨_l49, hl49, h⟩ := h
            refine TS_appT (d := 600000) (e := 56) (sz := 3) (N := List.length s1.2.2) S_Diagnostic.cs (fun _ => by kernel_rfl) (l1 := s1.2.2) (l2 := ([v48] : List S_Diagnostic)) (c := .whole) hl49 (by kernel_rfl) (by kernel_rfl) ?_
            refine TS_go 4 ?_
            replace h := bindO h
            obtain ⟨_l50, hl50, h⟩ := h
            refine TS_sub S_Diagnostic.cs 3 hl50 (by kernel_rfl) (by kernel_rfl) ?_
            refine TS_go 4 ?_
            have ret := Option.some.inj h
            subst ret
            exact TS_againB _ ⟨[(0, []), (1, []), (5, [])], [(600000, (600000, []))]⟩ rfl (by kernel_rfl) (by kernel_rfl)
          · refine TD_know 70 (b := false) hb46 trivial (by kernel_rfl) (by kernel_rfl) ?_
            refine TD_go 1 ?_
            replace h := bindO h
            obtain ⟨_e51, he51, h⟩ := h
            refine TD_idx S_Diagnostic.cs he51 (by kernel_rfl) (by kernel_rfl) ?_
            refine TD_go 3 ?_
            replace h := bindO h
            obtain ⟨_e52, he52, h⟩ := h
            refine TD_idx S_Diagnostic.cs he52 (by kernel_rfl) (by kernel_rfl) ?_
            refine TD_go 5 ?_
            refine TD_end (by kernel_rfl) ?_
            replace h := condO h
            rcases h with ⟨hb53, h⟩ | ⟨hb53, h⟩
            · refine TS_know 40 (b := false) hb41 (by kernel_rfl) (by kernel_rfl) ?_
              refine TS_know 69 (b := false) hb46 (by kernel_rfl) (by kernel_rfl) ?_
              refine TS_know 79 (b := true) hb53 (by kernel_rfl) (by kernel_rfl) ?_
              refine TS_know 80 (b := true) hb53 (by kernel_rfl) (by kernel_rfl) ?_
              refine TS_know 66 (b := true) hb53 (by kernel_rfl) (by kernel_rfl) ?_
              refine TS_T (by kernel_rfl) rfl ?_
              refine TS_go 4 ?_
              replace h := bindO h
              obtain ⟨e54, he54, h⟩ := h
              refine TS_idx S_Diagnostic.cs he54 (by kernel_rfl) (by kernel_rfl) ?_
              refine TS_go 1 ?_
              replace h := bindO h
              obtain ⟨v55, hv55, h⟩ := h
              refine TS_con [] [(85, 900002)] none (okT_management_clone e54 v55 hv55) (by kernel_rfl) (by kernel_rfl) (by kernel_rfl) ?_
              refine TS_litNT 86 56 3 S_Diagnostic.cs [0, 0, 2] ([v55] : List S_Diagnostic) (by kernel_rfl) (by kernel_rfl) ?_
              replace h := bindO h
              obtain ⟨_l56, hl56, h⟩ := h
              refine TS_appT (d := 600000) (e := 56) (sz := 3) (N := List.length s1.2.2) S_Diagnostic.cs (fun _ => by kernel_rfl) (l1 := s1.2.2) (l2 := ([v55] : List S_Diagnostic)) (c := .whole) hl56 (by kernel_rfl) (by kernel_rfl) ?_
              refine TS_go 4 ?_
              replace h := bindO h
              obtain ⟨_l57, hl57, h⟩ := h
              refine TS_sub S_Diagnostic.cs 3 hl57 (by kernel_rfl) (by kernel_rfl) ?_
              refine TS_go 4 ?_
              have ret := Option.some.inj h
              subst ret
              exact TS_againB _ ⟨[(0, []), (1, []), (5, [])], [(600000, (600000, []))]⟩ rfl (by kernel_rfl) (by kernel_rfl)
            · refine TS_know 40 (b := false) hb41 (by kernel_rfl) (by kernel_rfl) ?_
              refine TS_know 69 (b := false) hb46 (by kernel_rfl) (by kernel_rfl) ?_
              refine TS_know 79 (b := false) hb53 (by kernel_rfl) (by kernel_rfl) ?_
              refine TS_know 80 (b := false) hb53 (by kernel_rfl) (by kernel_rfl) ?_
              refine TS_know 66 (b := false) hb53 (by kernel_rfl) (by kernel_rfl) ?_
              refine TS_F (by kernel_rfl) rfl ?_
              refine TS_go 3 ?_
              replace h := bindO h
              obtain ⟨e58, he58, h⟩ := h
              refine TS_idx S_Diagnostic.cs he58 (by kernel_rfl) (by kernel_rfl) ?_
              refine TS_go 4 ?_
              refine TS_cut ⟨[(0, []), (1, []), (5, []), (6, [])], [(600000, (600000, [])), (6, (6, []))]⟩ (.mk [.code (codeAt [1, 1, 0, 0, 0, 1, 0, 0, 1, 1, 1, 1, 1] (bodyOf Try.f55)), .blk 2, .blk 1] .normal ⟨[(0, .c (.slc 3 0 (List.length s1.1) (List.map S_Diagnostic.cs s1.1))), (1, .c (.slc 3 0 (List.length s1.2.1) (List.map S_Diagnostic.cs s1.2.1))), (5, .c (.slc 3 600002 (List.length s1.2.2) (List.map S_Diagnostic.cs s1.2.2))), (6, .c (.box 6 0))], [(600000, .spare 56 3 (List.length s1.2.2)), (6, .box [.lit (.int .u64 (e58.Node)), .lit (.int .i64 (e58.Number)), .slc 1 0 (List.length e58.Data) (List.map (ecI .u8) e58.Data)])]⟩) (by kernel_rfl) (by kernel_rfl) ?_
              refine TS_joinB ⟨[(0, []), (1, []), (5, []), (6, [])], [(600000, (600000, [])), (6, (6, []))]⟩ (fun (v59 : S_Diagnostic) => []) (fun (v59 : S_Diagnostic) => [(6, .box (S_Diagnostic.cs v59))]) (F_management_union_j3 s1) x ?_ ?_
              · clear h
                intro v59 h
                unfold F_management_union_j3 at h
                refine TS_go 4 ?_
                replace h := bindO h
                obtain ⟨v60, hv60, h⟩ := h
                refine TS_con [] [(30, 900002)] none (okT_management_clone v59 v60 hv60) (by kernel_rfl) (by kernel_rfl) (by kernel_rfl) ?_
                refine TS_litNT 31 56 3 S_Diagnostic.cs [0, 0, 2] ([v60] : List S_Diagnostic) (by kernel_rfl) (by kernel_rfl) ?_
                replace h := bindO h
                obtain ⟨_l61, hl61, h⟩ := h
                refine TS_appT (d := 600000) (e := 56) (sz := 3) (N := List.length s1.2.2) S_Diagnostic.cs (fun _ => by kernel_rfl) (l1 := s1.2.2) (l2 := ([v60] : List S_Diagnostic)) (c := .whole) hl61 (by kernel_rfl) (by kernel_rfl) ?_
                refine TS_go 2 ?_
                refine TS_draw (by kernel_rfl) ?_
                refine TD_go 1 ?_
                replace h := bindO h
                obtain ⟨_l62, hl62, h⟩ := h
                refine TD_sub S_Diagnostic.cs 3 hl62 (by kernel_rfl) (by kernel_rfl) ?_
                refine TD_go 1 ?_
                replace h := bindO h
                obtain ⟨_l63, hl63, h⟩ := h
                refine TD_sub S_Diagnostic.cs 3 hl63 (by kernel_rfl) (by kernel_rfl) ?_
                refine TD_go 2 ?_
                refine TD_end (by kernel_rfl) ?_
                refine TS_go 2 ?_
                have ret := Option.some.inj h
                subst ret
                exact TS_againB _ ⟨[(0, []), (1, []), (5, [])], [(600000, (600000, []))]⟩ rfl (by kernel_rfl) (by kernel_rfl)
              · refine TS_go 1 ?_
                refine TS_draw (by kernel_rfl) ?_
                refine TD_go 1 ?_
                replace h := bindO h
                obtain ⟨e64, he64, h⟩ := h
                refine TD_idx S_Diagnostic.cs he64 (by kernel_rfl) (by kernel_rfl) ?_
                refine TD_go 2 ?_
                replace h := bindO h
                obtain ⟨e65, he65, h⟩ := h
                refine TD_idx S_Diagnostic.cs he65 (by kernel_rfl) (by kernel_rfl) ?_
                refine TD_go 1 ?_
                replace h := bindO h
                obtain ⟨v66, hv66, h⟩ := h
                refine TD_call [] (ok_management_better e64 e65 v66 hv66) (by kernel_rfl) (by kernel_rfl) ?_
                refine TD_end (by kernel_rfl) ?_
                replace h := condO h
                rcases h with ⟨hb67, h⟩ | ⟨hb67, h⟩
                · subst hb67
                  refine TS_T (by kernel_rfl) rfl ?_
                  refine TS_go 2 ?_
                  replace h := bindO h
                  obtain ⟨e68, he68, h⟩ := h
                  refine TS_idx S_Diagnostic.cs he68 (by kernel_rfl) (by kernel_rfl) ?_
                  refine TS_go 3 ?_
                  exact TS_meet e68 ⟨[(0, []), (1, []), (5, []), (6, [])], [(600000, (600000, [])), (6, (6, []))]⟩ h (by kernel_rfl) (by kernel_rfl)
                · subst hb67
                  refine TS_F (by kernel_rfl) rfl ?_
                  refine TS_go 1 ?_
                  exact TS_meet e58 ⟨[(0, []), (1, []), (5, []), (6, [])], [(600000, (600000, [])), (6, (6, []))]⟩ h (by kernel_rfl) (by kernel_rfl)
      · refine TS_know 13 (b := false) hb40 (by kernel_rfl) (by kernel_rfl) ?_
        refine TS_know 14 (b := false) hb40 (by kernel_rfl) (by kernel_rfl) ?_
        refine TS_F (by kernel_rfl) rfl ?_
        refine TS_go 2 ?_
        have ret := Option.some.inj h
        subst ret
        exact TS_brkB s1.2.2 ⟨[(5, [])], [(600000, (600000, []))]⟩ rfl (by kernel_rfl) (by kernel_rfl) (by kernel_rfl)
  · intro b2 hb
    subst y3
    have h := hK1
    refine TS_go 6 ?_
    refine TS_fitU ⟨[(4, [])], [(600000, (900000, []))]⟩ (by kernel_rfl) ?_
    refine TS_go 1 ?_
    have ret := Option.some.inj h
    subst ret
    exact TS_ret (by kernel_rfl) (by kernel_rfl) (by kernel_rfl)
/-- multihop/management.Report -/
noncomputable def F_management_Report_j1  (v8 : (List S_Diagnostic) × Int) : Option ((List S_Diagnostic) × Int) :=
  some ((v8.1, v8.2))
noncomputable def F_management_Report (a0 : List S_Diagnostic) (a1 : S_Diagnostic) : Option ((List S_Diagnostic) × Int) :=
  (F_management_ValidReports a0).bind fun v1 =>
  bif v1 then
    bif (a1.Node == 0) then
      some ((([] : List S_Diagnostic), 1))
    else
      bif (decide ((List.length a1.Data : Int) > 64)) then
        some ((([] : List S_Diagnostic), 1))
      else
        (F_management_validNumber a1.Number).bind fun v5 =>
        bif v5 then
          (F_management_union a0 ([a1] : List S_Diagnostic)).bind fun v7 =>
          bif (decide ((List.length v7 : Int) > 64)) then
            (F_management_Report_j1) (([] : List S_Diagnostic), 10)
          else
            (F_management_Report_j1) (v7, 0)
        else
          some ((([] : List S_Diagnostic), 2))
  else
    some ((([] : List S_Diagnostic), 1))
set_option maxRecDepth 100000 in
set_option maxHeartbeats 40000000 in
theorem ok_management_Report (a0 : List S_Diagnostic) (a1 : S_Diagnostic) (r : (List S_Diagnostic) × Int) (h : F_management_Report a0 a1 = some r) : Con Try.prog 34 [.c (eS 3 S_Diagnostic.cs (a0)), .agg (S_Diagnostic.cs a1)] [] (.tup [(false, [eS 3 S_Diagnostic.cs (r.1)]), (false, [.lit (.int .i64 (r.2))])]) [] := by
  unfold F_management_Report at h
  refine con_of [[4]] [] 31 Try.func34 rfl rfl (by kernel_rfl) (fun K => ?_)
  refine TS_go 10 ?_
  replace h := bindO h
  obtain ⟨v1, hv1, h⟩ := h
  refine TS_call [] (ok_management_ValidReports a0 v1 hv1) (by kernel_rfl) (by kernel_rfl) ?_
  refine TS_go 2 ?_
  replace h := condO h
  rcases h with ⟨hb2, h⟩ | ⟨hb2, h⟩
  · subst hb2
    refine TS_go 5 ?_
    replace h := condO h
    rcases h with ⟨hb3, h⟩ | ⟨hb3, h⟩
    · refine TS_know 12 (b := true) hb3 (by kernel_rfl) (by kernel_rfl) ?_
      refine TS_know 13 (b := true) hb3 (by kernel_rfl) (by kernel_rfl) ?_
      refine TS_know 14 (b := true) hb3 (by kernel_rfl) (by kernel_rfl) ?_
      refine TS_go 6 ?_
      refine TS_T (by kernel_rfl) rfl ?_
      refine TS_go 7 ?_
      have ret := Option.some.inj h
      subst ret
      exact TS_ret (by kernel_rfl) (by kernel_rfl) (by kernel_rfl)
    · refine TS_know 12 (b := false) hb3 (by kernel_rfl) (by kernel_rfl) ?_
      refine TS_know 13 (b := false) hb3 (by kernel_rfl) (by kernel_rfl) ?_
      refine TS_know 14 (b := false) hb3 (by kernel_rfl) (by kernel_rfl) ?_
      refine TS_go 6 ?_
      replace h := condO h
      rcases h with ⟨hb4, h⟩ | ⟨hb4, h⟩
      · refine TS_know 18 (b := true) hb4 (by kernel_rfl) (by kernel_rfl) ?_
        refine TS_know 19 (b := true) hb4 (by kernel_rfl) (by kernel_rfl) ?_
        refine TS_T (by kernel_rfl) rfl ?_
        refine TS_go 7 ?_
        have ret := Option.some.inj h
        subst ret
        exact TS_ret (by kernel_rfl) (by kernel_rfl) (by kernel_rfl)
      · refine TS_know 18 (b := false) hb4 (by kernel_rfl) (by kernel_rfl) ?_
        refine TS_know 19 (b := false) hb4 (by kernel_rfl) (by kernel_rfl) ?_
        refine TS_F (by kernel_rfl) rfl ?_
        refine TS_go 6 ?_
        replace h := bindO h
        obtain ⟨v5, hv5, h⟩ := h
        refine TS_call [] (ok_management_validNumber a1.Number v5 hv5) (by kernel_rfl) (by kernel_rfl) ?_
        refine TS_go 2 ?_
        replace h := condO h
        rcases h with ⟨hb6, h⟩ | ⟨hb6, h⟩
        · subst hb6
          refine TS_F (by kernel_rfl) rfl ?_
          refine TS_go 5 ?_
          refine TS_litNT 26 56 3 S_Diagnostic.cs [0, 0, 2] ([a1] : List S_Diagnostic) (by kernel_rfl) (by kernel_rfl) ?_
          replace h := bindO h
          obtain ⟨v7, hv7, h⟩ := h
          refine TS_con [[], [4]] [(27, 900000)] none (okT_management_union a0 ([a1] : List S_Diagnostic) v7 hv7) (by kernel_rfl) (by kernel_rfl) (by kernel_rfl) ?_
          refine TS_cut ⟨[(27, [])], [(27, (27, []))]⟩ (.mk [opsFr (codeAt [1, 1, 1, 0] (bodyOf Try.f34)) 4, .code (codeAt [1, 1, 1, 1] (bodyOf Try.f34))] .normal ⟨[(27, .c (.slc 3 29 (List.length v7) (List.map S_Diagnostic.cs v7)))], [(27, .spare 56 3 (List.length v7))]⟩) (by kernel_rfl) (by kernel_rfl) ?_
          refine TS_bump 2000 (by kernel_rfl) ?_
          refine TS_inlJ 8 Try.func54 rfl rfl ⟨[], []⟩ (fun (v8 : (List S_Diagnostic) × Int) => [(28, .tup [(false, [.slc 3 0 (List.length v8.1) (List.map S_Diagnostic.cs v8.1)]), (false, [.lit (.int .i64 (v8.2))])])]) (fun (v8 : (List S_Diagnostic) × Int) => []) (F_management_Report_j1) r (by kernel_rfl) ?_ (fun K10 => ?_)
          · clear h
            intro v8 h
            unfold F_management_Report_j1 at h
            refine TS_go 6 ?_
            have ret := Option.some.inj h
            subst ret
            exact TS_ret (by kernel_rfl) (by kernel_rfl) (by kernel_rfl)
          · refine TS_go 12 ?_
            replace h := condO h
            rcases h with ⟨hb9, h⟩ | ⟨hb9, h⟩
            · refine TS_know 6 (b := true) hb9 (by kernel_rfl) (by kernel_rfl) ?_
              refine TS_T (by kernel_rfl) rfl ?_
              refine TS_go 7 ?_
              exact TS_inlM (([] : List S_Diagnostic), 10) ⟨[(28, [4])], []⟩ h (by kernel_rfl) (by kernel_rfl) (by kernel_rfl)
            · refine TS_know 6 (b := false) hb9 (by kernel_rfl) (by kernel_rfl) ?_
              refine TS_F (by kernel_rfl) rfl ?_
              refine TS_go 8 ?_
              exact TS_inlM (v7, 0) ⟨[(28, [4])], []⟩ h (by kernel_rfl) (by kernel_rfl) (by kernel_rfl)
        · subst hb6
          refine TS_T (by kernel_rfl) rfl ?_
          refine TS_go 7 ?_
          have ret := Option.some.inj h
          subst ret
          exact TS_ret (by kernel_rfl) (by kernel_rfl) (by kernel_rfl)
  · subst hb2
    refine TS_go 11 ?_
    refine TS_T (by kernel_rfl) rfl ?_
    refine TS_go 7 ?_
    have ret := Option.some.inj h
    subst ret
    exact TS_ret (by kernel_rfl) (by kernel_rfl) (by kernel_rfl)

/-- multihop/multihoplaw39.known -/
noncomputable def F_law39_known  : Option (Bool) :=
  (F_management_Sign [1, 0, 0, 0, 0, 0, 0, 0, 0, 0, 0, 0, 0, 0, 0, 0] 3 ([7] : List Int)).bind fun v1 =>
  (F_management_Take (S_Settings.mk 0 ([] : List Int) [0, 0, 0, 0, 0, 0, 0, 0]) [1, 0, 0, 0, 0, 0, 0, 0, 0, 0, 0, 0, 0, 0, 0, 0] v1.1).bind fun v2 =>
  (F_management_Take v2.1 [1, 0, 0, 0, 0, 0, 0, 0, 0, 0, 0, 0, 0, 0, 0, 0] v1.1).bind fun v3 =>
  (F_management_Report ([] : List S_Diagnostic) (S_Diagnostic.mk 4 5 ([] : List Int))).bind fun v4 =>
  bif (v1.2 == 0) then
    bif (v2.2 == 0) then
      bif (v3.2 == 16) then
        bif (v4.2 == 0) then
          bif ((List.length v4.1 : Int) == 1) then
            bif (v2.1.Version == 3) then
              (F_management_Check [1, 0, 0, 0, 0, 0, 0, 0, 0, 0, 0, 0, 0, 0, 0, 0] v2.1).bind fun v11 =>
              some (v11)
            else
              some (false)
          else
            some (false)
        else
          some (false)
      else
        some (false)
    else
      some (false)
  else
    some (false)
set_option maxRecDepth 100000 in
set_option maxHeartbeats 40000000 in
theorem ok_law39_known  (r : Bool) (h : F_law39_known  = some r) : Con Try.prog 15 [] [] (.c (.lit (.bool (r)))) [] := by
  unfold F_law39_known at h
  refine con_of [] [] 63 Try.func15 rfl rfl (by kernel_rfl) (fun K => ?_)
  refine TS_go 7 ?_
  refine TS_litNT 11 5 1 (ecI .u8) [] ([7] : List Int) (by kernel_rfl) (by kernel_rfl) ?_
  replace h := bindO h
  obtain ⟨v1, hv1, h⟩ := h
  refine TS_con [[], [], [2]] [(12, 900001)] none (okT_management_Sign [1, 0, 0, 0, 0, 0, 0, 0, 0, 0, 0, 0, 0, 0, 0, 0] 3 ([7] : List Int) v1 hv1) (by kernel_rfl) (by kernel_rfl) (by kernel_rfl) ?_
  refine TS_go 12 ?_
  replace h := bindO h
  obtain ⟨v2, hv2, h⟩ := h
  refine TS_con [[0, 2], [], [0, 2]] [(19, 900001)] none (okT_management_Take (S_Settings.mk 0 ([] : List Int) [0, 0, 0, 0, 0, 0, 0, 0]) [1, 0, 0, 0, 0, 0, 0, 0, 0, 0, 0, 0, 0, 0, 0, 0] v1.1 v2 hv2) (by kernel_rfl) (by kernel_rfl) (by kernel_rfl) ?_
  refine TS_go 12 ?_
  replace h := bindO h
  obtain ⟨v3, hv3, h⟩ := h
  refine TS_con [[0, 2], [], [0, 2]] [(26, 900001)] none (okT_management_Take v2.1 [1, 0, 0, 0, 0, 0, 0, 0, 0, 0, 0, 0, 0, 0, 0, 0] v1.1 v3 hv3) (by kernel_rfl) (by kernel_rfl) (by kernel_rfl) ?_
  refine TS_go 10 ?_
  replace h := bindO h
  obtain ⟨v4, hv4, h⟩ := h
  refine TS_call [[4], [0, 0, 2]] (ok_management_Report ([] : List S_Diagnostic) (S_Diagnostic.mk 4 5 ([] : List Int)) v4 hv4) (by kernel_rfl) (by kernel_rfl) ?_
  refine TS_go 11 ?_
  replace h := condO h
  rcases h with ⟨hb5, h⟩ | ⟨hb5, h⟩
  · refine TS_know 35 (b := true) hb5 (by kernel_rfl) (by kernel_rfl) ?_
    refine TS_know 36 (b := true) hb5 (by kernel_rfl) (by kernel_rfl) ?_
    refine TS_go 4 ?_
    replace h := condO h
    rcases h with ⟨hb6, h⟩ | ⟨hb6, h⟩
    · refine TS_know 38 (b := true) hb6 (by kernel_rfl) (by kernel_rfl) ?_
      refine TS_know 39 (b := true) hb6 (by kernel_rfl) (by kernel_rfl) ?_
      refine TS_know 40 (b := true) hb6 (by kernel_rfl) (by kernel_rfl) ?_
      refine TS_go 4 ?_
      replace h := condO h
      rcases h with ⟨hb7, h⟩ | ⟨hb7, h⟩
      · refine TS_know 42 (b := true) hb7 (by kernel_rfl) (by kernel_rfl) ?_
        refine TS_know 43 (b := true) hb7 (by kernel_rfl) (by kernel_rfl) ?_
        refine TS_know 44 (b := true) hb7 (by kernel_rfl) (by kernel_rfl) ?_
        refine TS_go 4 ?_
        replace h := condO h
        rcases h with ⟨hb8, h⟩ | ⟨hb8, h⟩
        · refine TS_know 46 (b := true) hb8 (by kernel_rfl) (by kernel_rfl) ?_
          refine TS_know 47 (b := true) hb8 (by kernel_rfl) (by kernel_rfl) ?_
          refine TS_know 48 (b := true) hb8 (by kernel_rfl) (by kernel_rfl) ?_
          refine TS_go 5 ?_
          replace h := condO h
          rcases h with ⟨hb9, h⟩ | ⟨hb9, h⟩
          · refine TS_know 51 (b := true) hb9 (by kernel_rfl) (by kernel_rfl) ?_
            refine TS_know 52 (b := true) hb9 (by kernel_rfl) (by kernel_rfl) ?_
            refine TS_know 53 (b := true) hb9 (by kernel_rfl) (by kernel_rfl) ?_
            refine TS_go 5 ?_
            replace h := condO h
            rcases h with ⟨hb10, h⟩ | ⟨hb10, h⟩
            · refine TS_know 56 (b := true) hb10 (by kernel_rfl) (by kernel_rfl) ?_
              refine TS_know 57 (b := true) hb10 (by kernel_rfl) (by kernel_rfl) ?_
              refine TS_know 58 (b := true) hb10 (by kernel_rfl) (by kernel_rfl) ?_
              refine TS_go 2 ?_
              replace h := bindO h
              obtain ⟨v11, hv11, h⟩ := h
              refine TS_call [[], [0, 2]] (ok_management_Check [1, 0, 0, 0, 0, 0, 0, 0, 0, 0, 0, 0, 0, 0, 0, 0] v2.1 v11 hv11) (by kernel_rfl) (by kernel_rfl) ?_
              refine TS_go 4 ?_
              have ret := Option.some.inj h
              subst ret
              exact TS_ret (by kernel_rfl) (by kernel_rfl) (by kernel_rfl)
            · refine TS_know 56 (b := false) hb10 (by kernel_rfl) (by kernel_rfl) ?_
              refine TS_know 57 (b := false) hb10 (by kernel_rfl) (by kernel_rfl) ?_
              refine TS_know 58 (b := false) hb10 (by kernel_rfl) (by kernel_rfl) ?_
              refine TS_go 7 ?_
              have ret := Option.some.inj h
              subst ret
              exact TS_ret (by kernel_rfl) (by kernel_rfl) (by kernel_rfl)
          · refine TS_know 51 (b := false) hb9 (by kernel_rfl) (by kernel_rfl) ?_
            refine TS_know 52 (b := false) hb9 (by kernel_rfl) (by kernel_rfl) ?_
            refine TS_know 53 (b := false) hb9 (by kernel_rfl) (by kernel_rfl) ?_
            refine TS_go 12 ?_
            have ret := Option.some.inj h
            subst ret
            exact TS_ret (by kernel_rfl) (by kernel_rfl) (by kernel_rfl)
        · refine TS_know 46 (b := false) hb8 (by kernel_rfl) (by kernel_rfl) ?_
          refine TS_know 47 (b := false) hb8 (by kernel_rfl) (by kernel_rfl) ?_
          refine TS_know 48 (b := false) hb8 (by kernel_rfl) (by kernel_rfl) ?_
          refine TS_go 17 ?_
          have ret := Option.some.inj h
          subst ret
          exact TS_ret (by kernel_rfl) (by kernel_rfl) (by kernel_rfl)
      · refine TS_know 42 (b := false) hb7 (by kernel_rfl) (by kernel_rfl) ?_
        refine TS_know 43 (b := false) hb7 (by kernel_rfl) (by kernel_rfl) ?_
        refine TS_know 44 (b := false) hb7 (by kernel_rfl) (by kernel_rfl) ?_
        refine TS_go 21 ?_
        have ret := Option.some.inj h
        subst ret
        exact TS_ret (by kernel_rfl) (by kernel_rfl) (by kernel_rfl)
    · refine TS_know 38 (b := false) hb6 (by kernel_rfl) (by kernel_rfl) ?_
      refine TS_know 39 (b := false) hb6 (by kernel_rfl) (by kernel_rfl) ?_
      refine TS_know 40 (b := false) hb6 (by kernel_rfl) (by kernel_rfl) ?_
      refine TS_go 25 ?_
      have ret := Option.some.inj h
      subst ret
      exact TS_ret (by kernel_rfl) (by kernel_rfl) (by kernel_rfl)
  · refine TS_know 35 (b := false) hb5 (by kernel_rfl) (by kernel_rfl) ?_
    refine TS_know 36 (b := false) hb5 (by kernel_rfl) (by kernel_rfl) ?_
    refine TS_go 29 ?_
    have ret := Option.some.inj h
    subst ret
    exact TS_ret (by kernel_rfl) (by kernel_rfl) (by kernel_rfl)

/-- multihop/multihopmade.Mod -/
noncomputable def F_made_Mod_j1  (v2 : Int) : Option (Int) :=
  some (v2)
noncomputable def F_made_Mod (a0 : Int) (a1 : Int) : Option (Int) :=
  bif decide (a1 ≠ 0) then
    bif (decide ((Int.tmod a0 a1) < 0)) then
      (F_made_Mod_j1) (IntKind.wrap .i64 ((Int.tmod a0 a1) + a1))
    else
      (F_made_Mod_j1) (Int.tmod a0 a1)
  else none
set_option maxRecDepth 100000 in
set_option maxHeartbeats 40000000 in
theorem ok_made_Mod (a0 : Int) (a1 : Int) (r : Int) (h : F_made_Mod a0 a1 = some r) : Con Try.prog 16 [.c (.lit (.int .i64 (a0))), .c (.lit (.int .i64 (a1)))] [] (.c (.lit (.int .i64 (r)))) [] := by
  unfold F_made_Mod at h
  refine con_of [] [] 14 Try.func16 rfl rfl (by kernel_rfl) (fun K => ?_)
  refine TS_go 8 ?_
  replace h := chkO h
  obtain ⟨hc1, h⟩ := h
  refine TS_num (op := .rem) (k := .i64) (k' := .i64) (m := a0) (i := a1) (of_decide_eq_true hc1) rfl (by simp) (by kernel_rfl) (by kernel_rfl) ?_
  refine TS_go 2 ?_
  refine TS_cut ⟨[(0, []), (1, [])], []⟩ (.mk [.code (codeAt [1, 1] (bodyOf Try.f16))] .normal ⟨[(0, .c (.lit (.int .i64 (Int.tmod a0 a1)))), (1, .c (.lit (.int .i64 (a1))))], []⟩) (by kernel_rfl) (by kernel_rfl) ?_
  refine TS_joinB ⟨[(0, [])], []⟩ (fun (v2 : Int) => [(0, .c (.lit (.int .i64 (v2))))]) (fun (v2 : Int) => []) (F_made_Mod_j1) r ?_ ?_
  · clear h
    intro v2 h
    unfold F_made_Mod_j1 at h
    refine TS_go 6 ?_
    have ret := Option.some.inj h
    subst ret
    exact TS_ret (by kernel_rfl) (by kernel_rfl) (by kernel_rfl)
  · refine TS_go 5 ?_
    replace h := condO h
    rcases h with ⟨hb3, h⟩ | ⟨hb3, h⟩
    · refine TS_know 9 (b := true) hb3 (by kernel_rfl) (by kernel_rfl) ?_
      refine TS_T (by kernel_rfl) rfl ?_
      refine TS_go 6 ?_
      exact TS_meet (IntKind.wrap .i64 ((Int.tmod a0 a1) + a1)) ⟨[(0, [])], []⟩ h (by kernel_rfl) (by kernel_rfl)
    · refine TS_know 9 (b := false) hb3 (by kernel_rfl) (by kernel_rfl) ?_
      refine TS_F (by kernel_rfl) rfl ?_
      refine TS_go 1 ?_
      exact TS_meet (Int.tmod a0 a1) ⟨[(0, [])], []⟩ h (by kernel_rfl) (by kernel_rfl)

/-- bytes.Equal -/
noncomputable def F_bytes_Equal (a0 : List Int) (a1 : List Int) : Option (Bool) :=
  some (((u8L (Cut.app .whole a0)) == (u8L (Cut.app .whole a1))))
set_option maxRecDepth 100000 in
set_option maxHeartbeats 40000000 in
theorem ok_bytes_Equal (a0 : List Int) (a1 : List Int) (r : Bool) (h : F_bytes_Equal a0 a1 = some r) : Con Try.prog 39 [.c (eS 1 (ecI .u8) (a0)), .c (eS 1 (ecI .u8) (a1))] [] (.c (.lit (.bool (r)))) [] := by
  unfold F_bytes_Equal at h
  refine con_of [] [] 10 Try.func39 rfl rfl (by kernel_rfl) (fun K => ?_)
  refine TS_go 7 ?_
  refine TS_b2s a0 .whole (by kernel_rfl) (by kernel_rfl) ?_
  refine TS_go 1 ?_
  refine TS_b2s a1 .whole (by kernel_rfl) (by kernel_rfl) ?_
  refine TS_str .eql (u8L (Cut.app .whole a0)) (u8L (Cut.app .whole a1)) rfl (by kernel_rfl) (by kernel_rfl) ?_
  refine TS_go 3 ?_
  have ret := Option.some.inj h
  subst ret
  exact TS_ret (by kernel_rfl) (by kernel_rfl) (by kernel_rfl)

/-- multihop/multihopworld.EUI -/
noncomputable def F_world_EUI (a0 : S_multihopmade_Tape) : Option (Int × S_multihopmade_Tape) :=
  (F_made_Tape_Next a0 5).bind fun v1 =>
  some ((IntKind.wrap .u64 (IntKind.wrap .i64 (1 + v1.1)), v1.2))
set_option maxRecDepth 100000 in
set_option maxHeartbeats 40000000 in
theorem ok_world_EUI (a0 : S_multihopmade_Tape) (r : Int × S_multihopmade_Tape) (h : F_world_EUI a0 = some r) : Con Try.prog 29 [.c (.box 1000000 0)] [(1000000, .box (S_multihopmade_Tape.cs a0))] (.c (.lit (.int .u64 (r.1)))) [(1000000, .box (S_multihopmade_Tape.cs r.2))] := by
  unfold F_world_EUI at h
  refine con_of [] [(1000000, [2])] 7 Try.func29 rfl rfl (by kernel_rfl) (fun K => ?_)
  refine TS_go 7 ?_
  replace h := bindO h
  obtain ⟨v1, hv1, h⟩ := h
  refine TS_con [] [] (some (1000000, 0)) (ok_made_Tape_Next a0 5 v1 hv1) (by kernel_rfl) (by kernel_rfl) (by kernel_rfl) ?_
  refine TS_go 5 ?_
  have ret := Option.some.inj h
  subst ret
  exact TS_ret (by kernel_rfl) (by kernel_rfl) (by kernel_rfl)

/-- multihop/multihopref39.validReport -/
noncomputable def F_ref39_validReport (a0 : S_Diagnostic) : Option (Bool) :=
  bif (a0.Node != 0) then
    some ((decide ((List.length a0.Data : Int) ≤ 64)))
  else
    some (false)
set_option maxRecDepth 100000 in
set_option maxHeartbeats 40000000 in
theorem ok_ref39_validReport (a0 : S_Diagnostic) (r : Bool) (h : F_ref39_validReport a0 = some r) : Con Try.prog 61 [.agg (S_Diagnostic.cs a0)] [] (.c (.lit (.bool (r)))) [] := by
  unfold F_ref39_validReport at h
  refine con_of [] [] 12 Try.func61 rfl rfl (by kernel_rfl) (fun K => ?_)
  refine TS_go 11 ?_
  replace h := condO h
  rcases h with ⟨hb1, h⟩ | ⟨hb1, h⟩
  · refine TS_know 5 (b := true) hb1 (by kernel_rfl) (by kernel_rfl) ?_
    refine TS_know 6 (b := true) hb1 (by kernel_rfl) (by kernel_rfl) ?_
    refine TS_go 8 ?_
    have ret := Option.some.inj h
    subst ret
    exact TS_ret (by kernel_rfl) (by kernel_rfl) (by kernel_rfl)
  · refine TS_know 5 (b := false) hb1 (by kernel_rfl) (by kernel_rfl) ?_
    refine TS_know 6 (b := false) hb1 (by kernel_rfl) (by kernel_rfl) ?_
    refine TS_go 8 ?_
    have ret := Option.some.inj h
    subst ret
    exact TS_ret (by kernel_rfl) (by kernel_rfl) (by kernel_rfl)

/-- multihop/multihopref39.ValidReports -/
noncomputable def F_ref39_ValidReports_l1 (a0 : List S_Diagnostic) (s2 : Int) : Option ((Int) ⊕ ((Unit) ⊕ (Bool))) :=
  bif (decide (s2 < (List.length a0 : Int))) then
    (idx a0 s2).bind fun e6 =>
    (F_ref39_validReport e6).bind fun v7 =>
    bif v7 then
      bif (decide (e6.Number < 0)) then
        some (Sum.inr (Sum.inr false))
      else
        bif (decide (e6.Number > 1073741824)) then
          some (Sum.inr (Sum.inr false))
        else
          bif (decide (s2 > 0)) then
            (idx a0 (IntKind.wrap .i64 (s2 - 1))).bind fun e12 =>
            bif (decide (e12.Node ≥ e6.Node)) then
              some (Sum.inr (Sum.inr false))
            else
              some (Sum.inl (IntKind.wrap .i64 (s2 + 1)))
          else
            some (Sum.inl (IntKind.wrap .i64 (s2 + 1)))
    else
      some (Sum.inr (Sum.inr false))
  else
    some (Sum.inr (Sum.inl ()))
noncomputable def F_ref39_ValidReports (a0 : List S_Diagnostic) : Option (Bool) :=
  bif (decide ((List.length a0 : Int) > 64)) then
    some (false)
  else
    (loopO (F_ref39_ValidReports_l1 a0) 0).bind (Sum.elim (fun b3 =>
      some (true)
    ) (fun w14 => some w14))
set_option maxRecDepth 100000 in
set_option maxHeartbeats 40000000 in
theorem ok_ref39_ValidReports (a0 : List S_Diagnostic) (r : Bool) (h : F_ref39_ValidReports a0 = some r) : Con Try.prog 36 [.c (eS 3 S_Diagnostic.cs (a0))] [] (.c (.lit (.bool (r)))) [] := by
  unfold F_ref39_ValidReports at h
  refine con_of [] [] 44 Try.func36 rfl rfl (by kernel_rfl) (fun K => ?_)
  refine TS_go 11 ?_
  replace h := condO h
  rcases h with ⟨hb1, h⟩ | ⟨hb1, h⟩
  · refine TS_know 7 (b := true) hb1 (by kernel_rfl) (by kernel_rfl) ?_
    refine TS_T (by kernel_rfl) rfl ?_
    refine TS_go 6 ?_
    have ret := Option.some.inj h
    subst ret
    exact TS_ret (by kernel_rfl) (by kernel_rfl) (by kernel_rfl)
  · refine TS_know 7 (b := false) hb1 (by kernel_rfl) (by kernel_rfl) ?_
    refine TS_F (by kernel_rfl) rfl ?_
    refine TS_go 9 ?_
    refine TS_cut ⟨[(0, []), (8, []), (9, []), (10, [])], []⟩ (.mk [.code (codeAt [1, 1, 0, 1, 0] (bodyOf Try.f36)), .blk 0, .code (codeAt [1, 1, 1] (bodyOf Try.f36))] .normal ⟨[(0, .c (.slc 3 0 (List.length a0) (List.map S_Diagnostic.cs a0))), (8, .c (.slc 3 0 (List.length a0) (List.map S_Diagnostic.cs a0))), (9, .c (.lit (.int .i64 ((List.length a0 : Int))))), (10, .c (.lit (.int .i64 (0))))], []⟩) (by kernel_rfl) (by kernel_rfl) ?_
    replace h := bindO h
    obtain ⟨y4, hl1, hK1⟩ := h
    refine TS_loopB (F_ref39_ValidReports_l1 a0) ⟨[(0, []), (8, []), (9, []), (10, [])], []⟩ (fun (s2 : Int) => [(10, .c (.lit (.int .i64 (s2))))]) (fun (s2 : Int) => []) 0 y4 (.exit 0) (fun (b : Unit) => (Sum.inl b : (Unit) ⊕ (Bool))) ⟨[], []⟩ (fun (b3 : Unit) => []) (fun (b3 : Unit) => []) hl1 (by kernel_rfl) (by kernel_rfl) ?_ ?_
    · intro s2 x h hy1
      unfold F_ref39_ValidReports_l1 at h
      refine TS_go 5 ?_
      replace h := condO h
      rcases h with ⟨hb5, h⟩ | ⟨hb5, h⟩
      · refine TS_know 11 (b := true) hb5 (by kernel_rfl) (by kernel_rfl) ?_
        refine TS_T (by kernel_rfl) rfl ?_
        refine TS_go 6 ?_
        replace h := bindO h
        obtain ⟨e6, he6, h⟩ := h
        refine TS_idx S_Diagnostic.cs he6 (by kernel_rfl) (by kernel_rfl) ?_
        refine TS_go 6 ?_
        refine TS_draw (by kernel_rfl) ?_
        refine TD_go 1 ?_
        replace h := bindO h
        obtain ⟨v7, hv7, h⟩ := h
        refine TD_call [] (ok_ref39_validReport e6 v7 hv7) (by kernel_rfl) (by kernel_rfl) ?_
        refine TD_go 2 ?_
        replace h := condO h
        rcases h with ⟨hb8, h⟩ | ⟨hb8, h⟩
        · subst hb8
          refine TD_go 4 ?_
          replace h := condO h
          rcases h with ⟨hb9, h⟩ | ⟨hb9, h⟩
          · refine TD_know 23 (b := true) hb9 trivial (by kernel_rfl) (by kernel_rfl) ?_
            refine TD_go 19 ?_
            refine TD_end (by kernel_rfl) ?_
            refine TS_T (by kernel_rfl) rfl ?_
            refine TS_go 7 ?_
            have ret := Option.some.inj h
            subst ret
            have hy1q := hy1 _ rfl
            subst hy1q
            replace h := (elimR hK1)
            refine TS_retB rfl (by kernel_rfl) ?_
            refine TS_go 2 ?_
            have ret := Option.some.inj h
            subst ret
            exact TS_ret (by kernel_rfl) (by kernel_rfl) (by kernel_rfl)
          · refine TD_know 23 (b := false) hb9 trivial (by kernel_rfl) (by kernel_rfl) ?_
            refine TD_go 4 ?_
            replace h := condO h
            rcases h with ⟨hb10, h⟩ | ⟨hb10, h⟩
            · refine TD_know 28 (b := true) hb10 trivial (by kernel_rfl) (by kernel_rfl) ?_
              refine TD_go 14 ?_
              refine TD_end (by kernel_rfl) ?_
              refine TS_T (by kernel_rfl) rfl ?_
              refine TS_go 7 ?_
              have ret := Option.some.inj h
              subst ret
              have hy1q := hy1 _ rfl
              subst hy1q
              replace h := (elimR hK1)
              refine TS_retB rfl (by kernel_rfl) ?_
              refine TS_go 2 ?_
              have ret := Option.some.inj h
              subst ret
              exact TS_ret (by kernel_rfl) (by kernel_rfl) (by kernel_rfl)
            · refine TD_know 28 (b := false) hb10 trivial (by kernel_rfl) (by kernel_rfl) ?_
              refine TD_go 2 ?_
              replace h := condO h
              rcases h with ⟨hb11, h⟩ | ⟨hb11, h⟩
              · refine TD_know 31 (b := true) hb11 trivial (by kernel_rfl) (by kernel_rfl) ?_
                refine TD_go 3 ?_
                replace h := bindO h
                obtain ⟨_e12, he12, h⟩ := h
                refine TD_idx S_Diagnostic.cs he12 (by kernel_rfl) (by kernel_rfl) ?_
                refine TD_go 7 ?_
                refine TD_end (by kernel_rfl) ?_
                replace h := condO h
                rcases h with ⟨hb13, h⟩ | ⟨hb13, h⟩
                · refine TS_know 21 (b := false) hb9 (by kernel_rfl) (by kernel_rfl) ?_
                  refine TS_know 22 (b := false) hb9 (by kernel_rfl) (by kernel_rfl) ?_
                  refine TS_know 26 (b := false) hb10 (by kernel_rfl) (by kernel_rfl) ?_
                  refine TS_know 27 (b := false) hb10 (by kernel_rfl) (by kernel_rfl) ?_
                  refine TS_know 30 (b := true) hb11 (by kernel_rfl) (by kernel_rfl) ?_
                  refine TS_know 40 (b := true) hb13 (by kernel_rfl) (by kernel_rfl) ?_
                  refine TS_know 41 (b := true) hb13 (by kernel_rfl) (by kernel_rfl) ?_
                  refine TS_know 42 (b := true) hb13 (by kernel_rfl) (by kernel_rfl) ?_
                  refine TS_T (by kernel_rfl) rfl ?_
                  refine TS_go 7 ?_
                  have ret := Option.some.inj h
                  subst ret
                  have hy1q := hy1 _ rfl
                  subst hy1q
                  replace h := (elimR hK1)
                  refine TS_retB rfl (by kernel_rfl) ?_
                  refine TS_go 2 ?_
                  have ret := Option.some.inj h
                  subst ret
                  exact TS_ret (by kernel_rfl) (by kernel_rfl) (by kernel_rfl)
                · refine TS_know 21 (b := false) hb9 (by kernel_rfl) (by kernel_rfl) ?_
                  refine TS_know 22 (b := false) hb9 (by kernel_rfl) (by kernel_rfl) ?_
                  refine TS_know 26 (b := false) hb10 (by kernel_rfl) (by kernel_rfl) ?_
                  refine TS_know 27 (b := false) hb10 (by kernel_rfl) (by kernel_rfl) ?_
                  refine TS_know 30 (b := true) hb11 (by kernel_rfl) (by kernel_rfl) ?_
                  refine TS_know 40 (b := false) hb13 (by kernel_rfl) (by kernel_rfl) ?_
                  refine TS_know 41 (b := false) hb13 (by kernel_rfl) (by kernel_rfl) ?_
                  refine TS_know 42 (b := false) hb13 (by kernel_rfl) (by kernel_rfl) ?_
                  refine TS_F (by kernel_rfl) rfl ?_
                  refine TS_go 6 ?_
                  have ret := Option.some.inj h
                  subst ret
                  exact TS_againB _ ⟨[(0, []), (8, []), (9, []), (10, [])], []⟩ rfl (by kernel_rfl) (by kernel_rfl)
              · refine TD_know 31 (b := false) hb11 trivial (by kernel_rfl) (by kernel_rfl) ?_
                refine TD_go 11 ?_
                refine TD_end (by kernel_rfl) ?_
                refine TS_F (by kernel_rfl) rfl ?_
                refine TS_go 6 ?_
                have ret := Option.some.inj h
                subst ret
                exact TS_againB _ ⟨[(0, []), (8, []), (9, []), (10, [])], []⟩ rfl (by kernel_rfl) (by kernel_rfl)
        · subst hb8
          refine TD_go 24 ?_
          refine TD_end (by kernel_rfl) ?_
          refine TS_T (by kernel_rfl) rfl ?_
          refine TS_go 7 ?_
          have ret := Option.some.inj h
          subst ret
          have hy1q := hy1 _ rfl
          subst hy1q
          replace h := (elimR hK1)
          refine TS_retB rfl (by kernel_rfl) ?_
          refine TS_go 2 ?_
          have ret := Option.some.inj h
          subst ret
          exact TS_ret (by kernel_rfl) (by kernel_rfl) (by kernel_rfl)
      · refine TS_know 11 (b := false) hb5 (by kernel_rfl) (by kernel_rfl) ?_
        refine TS_F (by kernel_rfl) rfl ?_
        refine TS_go 2 ?_
        have ret := Option.some.inj h
        subst ret
        exact TS_brkB () ⟨[], []⟩ rfl (by kernel_rfl) (by kernel_rfl) (by kernel_rfl)
    · intro b3 hb
      subst y4
      have h := elimL hK1
      refine TS_go 6 ?_
      have ret := Option.some.inj h
      subst ret
      exact TS_ret (by kernel_rfl) (by kernel_rfl) (by kernel_rfl)

/-- multihop/multihopref39.copyReport -/
noncomputable def F_ref39_copyReport (a0 : S_Diagnostic) : Option (S_Diagnostic) :=
  (appO 1 ([] : List Int) (Cut.app .whole a0.Data)).bind fun l1 =>
  some ((S_Diagnostic.mk a0.Node a0.Number l1))
set_option maxRecDepth 100000 in
set_option maxHeartbeats 40000000 in
theorem okT_ref39_copyReport (a0 : S_Diagnostic) (r : S_Diagnostic) (h : F_ref39_copyReport a0 = some r) : Con Try.prog 59 [.agg (S_Diagnostic.cs a0)] [] (.agg [.lit (.int .u64 (r.Node)), .lit (.int .i64 (r.Number)), .slc 1 900004 (List.length r.Data) (List.map (ecI .u8) r.Data)]) [(900002, .spare 5 1 (List.length r.Data))] := by
  unfold F_ref39_copyReport at h
  refine con_of [] [(900002, [])] 8 Try.func59 rfl rfl (by kernel_rfl) (fun K => ?_)
  refine TS_go 9 ?_
  replace h := bindO h
  obtain ⟨_l1, hl1, h⟩ := h
  refine TS_appNT 5 5 1 (ecI .u8) (fun _ => by kernel_rfl) (l2 := a0.Data) .whole hl1 (by kernel_rfl) (by kernel_rfl) ?_
  refine TS_go 8 ?_
  refine TS_fitU ⟨[(2, [])], [(5, (900002, [])), (2, (2, []))]⟩ (by kernel_rfl) ?_
  refine TS_go 1 ?_
  have ret := Option.some.inj h
  subst ret
  exact TS_ret (by kernel_rfl) (by kernel_rfl) (by kernel_rfl)
/-- multihop/multihopref39.Better -/
noncomputable def F_ref39_Better (a0 : S_Diagnostic) (a1 : S_Diagnostic) : Option (Bool) :=
  bif (decide (a0.Number > a1.Number)) then
    some (true)
  else
    bif (a0.Number == a1.Number) then
      some ((!(Go.Op.bytesLess (u8L (Cut.app .whole a0.Data)) (u8L (Cut.app .whole a1.Data)) || (u8L (Cut.app .whole a0.Data)) == (u8L (Cut.app .whole a1.Data)))))
    else
      some (false)
set_option maxRecDepth 100000 in
set_option maxHeartbeats 40000000 in
theorem ok_ref39_Better (a0 : S_Diagnostic) (a1 : S_Diagnostic) (r : Bool) (h : F_ref39_Better a0 a1 = some r) : Con Try.prog 60 [.agg (S_Diagnostic.cs a0), .agg (S_Diagnostic.cs a1)] [] (.c (.lit (.bool (r)))) [] := by
  unfold F_ref39_Better at h
  refine con_of [] [] 26 Try.func60 rfl rfl (by kernel_rfl) (fun K => ?_)
  refine TS_go 14 ?_
  replace h := condO h
  rcases h with ⟨hb1, h⟩ | ⟨hb1, h⟩
  · refine TS_know 9 (b := true) hb1 (by kernel_rfl) (by kernel_rfl) ?_
    refine TS_know 10 (b := true) hb1 (by kernel_rfl) (by kernel_rfl) ?_
    refine TS_go 18 ?_
    have ret := Option.some.inj h
    subst ret
    exact TS_ret (by kernel_rfl) (by kernel_rfl) (by kernel_rfl)
  · refine TS_know 9 (b := false) hb1 (by kernel_rfl) (by kernel_rfl) ?_
    refine TS_know 10 (b := false) hb1 (by kernel_rfl) (by kernel_rfl) ?_
    refine TS_go 6 ?_
    replace h := condO h
    rcases h with ⟨hb2, h⟩ | ⟨hb2, h⟩
    · refine TS_know 15 (b := true) hb2 (by kernel_rfl) (by kernel_rfl) ?_
      refine TS_know 16 (b := true) hb2 (by kernel_rfl) (by kernel_rfl) ?_
      refine TS_go 2 ?_
      refine TS_b2s a0.Data .whole (by kernel_rfl) (by kernel_rfl) ?_
      refine TS_go 2 ?_
      refine TS_b2s a1.Data .whole (by kernel_rfl) (by kernel_rfl) ?_
      refine TS_str .gtr (u8L (Cut.app .whole a0.Data)) (u8L (Cut.app .whole a1.Data)) rfl (by kernel_rfl) (by kernel_rfl) ?_
      refine TS_go 5 ?_
      have ret := Option.some.inj h
      subst ret
      exact TS_ret (by kernel_rfl) (by kernel_rfl) (by kernel_rfl)
    · refine TS_know 15 (b := false) hb2 (by kernel_rfl) (by kernel_rfl) ?_
      refine TS_know 16 (b := false) hb2 (by kernel_rfl) (by kernel_rfl) ?_
      refine TS_go 12 ?_
      have ret := Option.some.inj h
      subst ret
      exact TS_ret (by kernel_rfl) (by kernel_rfl) (by kernel_rfl)
end
section
open Go.RowKit
attribute [local irreducible] TS go TD goD

/-- multihop/multihopref39.Merge -/
noncomputable def F_ref39_Merge_j2 (s5 : (List S_Diagnostic) × Int × Int) (v30 : S_Diagnostic) : Option (((List S_Diagnostic) × Int × Int) ⊕ ((List S_Diagnostic))) :=
  (F_ref39_copyReport v30).bind fun v31 =>
  (appO 40 s5.1 (Cut.app .whole ([v31] : List S_Diagnostic))).bind fun l32 =>
  some (Sum.inl (l32, IntKind.wrap .i64 (s5.2.1 + 1), IntKind.wrap .i64 (s5.2.2 + 1)))
noncomputable def F_ref39_Merge_j3 (s5 : (List S_Diagnostic) × Int × Int) (v53 : S_Diagnostic) : Option (((List S_Diagnostic) × Int × Int) ⊕ ((List S_Diagnostic))) :=
  (F_ref39_copyReport v53).bind fun v54 =>
  (appO 40 s5.1 (Cut.app .whole ([v54] : List S_Diagnostic))).bind fun l55 =>
  some (Sum.inl (l55, IntKind.wrap .i64 (s5.2.1 + 1), IntKind.wrap .i64 (s5.2.2 + 1)))
noncomputable def F_ref39_Merge_l1 (a0 : List S_Diagnostic) (a1 : List S_Diagnostic) (s5 : (List S_Diagnostic) × Int × Int) : Option (((List S_Diagnostic) × Int × Int) ⊕ ((List S_Diagnostic))) :=
  bif (decide (s5.2.1 < (List.length a0 : Int))) then
    bif (s5.2.2 == (List.length a1 : Int)) then
      (idx a0 s5.2.1).bind fun e10 =>
      (F_ref39_copyReport e10).bind fun v11 =>
      (appO 40 s5.1 (Cut.app .whole ([v11] : List S_Diagnostic))).bind fun l12 =>
      some (Sum.inl (l12, IntKind.wrap .i64 (s5.2.1 + 1), s5.2.2))
    else
      (idx a0 s5.2.1).bind fun e13 =>
      (idx a1 s5.2.2).bind fun e14 =>
      bif (decide (e13.Node < e14.Node)) then
        (idx a0 s5.2.1).bind fun e16 =>
        (F_ref39_copyReport e16).bind fun v17 =>
        (appO 40 s5.1 (Cut.app .whole ([v17] : List S_Diagnostic))).bind fun l18 =>
        some (Sum.inl (l18, IntKind.wrap .i64 (s5.2.1 + 1), s5.2.2))
      else
        bif (s5.2.1 == (List.length a0 : Int)) then
          (idx a1 s5.2.2).bind fun e20 =>
          (F_ref39_copyReport e20).bind fun v21 =>
          (appO 40 s5.1 (Cut.app .whole ([v21] : List S_Diagnostic))).bind fun l22 =>
          some (Sum.inl (l22, s5.2.1, IntKind.wrap .i64 (s5.2.2 + 1)))
        else
          (idx a1 s5.2.2).bind fun e23 =>
          (idx a0 s5.2.1).bind fun e24 =>
          bif (decide (e23.Node < e24.Node)) then
            (idx a1 s5.2.2).bind fun e26 =>
            (F_ref39_copyReport e26).bind fun v27 =>
            (appO 40 s5.1 (Cut.app .whole ([v27] : List S_Diagnostic))).bind fun l28 =>
            some (Sum.inl (l28, s5.2.1, IntKind.wrap .i64 (s5.2.2 + 1)))
          else
            (idx a0 s5.2.1).bind fun e29 =>
            (idx a1 s5.2.2).bind fun e33 =>
            (F_ref39_Better e33 e29).bind fun v34 =>
            bif v34 then
              (idx a1 s5.2.2).bind fun e36 =>
              (F_ref39_Merge_j2 s5) e36
            else
              (F_ref39_Merge_j2 s5) e29
  else
    bif (decide (s5.2.2 < (List.length a1 : Int))) then
      bif (s5.2.2 == (List.length a1 : Int)) then
        (idx a0 s5.2.1).bind fun e39 =>
        (F_ref39_copyReport e39).bind fun v40 =>
        (appO 40 s5.1 (Cut.app .whole ([v40] : List S_Diagnostic))).bind fun l41 =>
        some (Sum.inl (l41, IntKind.wrap .i64 (s5.2.1 + 1), s5.2.2))
      else
        bif (s5.2.1 == (List.length a0 : Int)) then
          (idx a1 s5.2.2).bind fun e43 =>
          (F_ref39_copyReport e43).bind fun v44 =>
          (appO 40 s5.1 (Cut.app .whole ([v44] : List S_Diagnostic))).bind fun l45 =>
          some (Sum.inl (l45, s5.2.1, IntKind.wrap .i64 (s5.2.2 + 1)))
        else
          (idx a1 s5.2.2).bind fun e46 =>
          (idx a0 s5.2.1).bind fun e47 =>
          bif (decide (e46.Node < e47.Node)) then
            (idx a1 s5.2.2).bind fun e49 =>
            (F_ref39_copyReport e49).bind fun v50 =>
            (appO 40 s5.1 (Cut.app .whole ([v50] : List S_Diagnostic))).bind fun l51 =>
            some (Sum.inl (l51, s5.2.1, IntKind.wrap .i64 (s5.2.2 + 1)))
          else
            (idx a0 s5.2.1).bind fun e52 =>
            (idx a1 s5.2.2).bind fun e56 =>
            (F_ref39_Better e56 e52).bind fun v57 =>
            bif v57 then
              (idx a1 s5.2.2).bind fun e59 =>
              (F_ref39_Merge_j3 s5) e59
            else
              (F_ref39_Merge_j3 s5) e52
    else
      some (Sum.inr s5.1)
noncomputable def F_ref39_Merge (a0 : List S_Diagnostic) (a1 : List S_Diagnostic) : Option ((List S_Diagnostic) × Int) :=
  (F_ref39_ValidReports a0).bind fun v1 =>
  bif v1 then
    (F_ref39_ValidReports a1).bind fun v3 =>
    bif v3 then
      (loopO (F_ref39_Merge_l1 a0 a1) (([] : List S_Diagnostic), 0, 0)).bind fun b6 =>
      bif (decide ((List.length b6 : Int) > 64)) then
        some ((([] : List S_Diagnostic), 10))
      else
        some ((b6, 0))
    else
      some ((([] : List S_Diagnostic), 1))
  else
    some ((([] : List S_Diagnostic), 1))
set_option maxRecDepth 100000 in
set_option maxHeartbeats 40000000 in
theorem okT_ref39_Merge (a0 : List S_Diagnostic) (a1 : List S_Diagnostic) (r : (List S_Diagnostic) × Int) (h : F_ref39_Merge a0 a1 = some r) : Con Try.prog 32 [.c (eS 3 S_Diagnostic.cs (a0)), .c (eS 3 S_Diagnostic.cs (a1))] [] (.tup [(false, [.slc 3 900002 (List.length r.1) (List.map S_Diagnostic.cs r.1)]), (false, [.lit (.int .i64 (r.2))])]) [(900000, .spare 56 3 (List.length r.1))] := by
  unfold F_ref39_Merge at h
  refine con_of [] [(900000, [])] 117 Try.func32 rfl rfl (by kernel_rfl) (fun K => ?_)
  refine TS_go 9 ?_
  replace h := bindO h
  obtain ⟨v1, hv1, h⟩ := h
  refine TS_call [] (ok_ref39_ValidReports a0 v1 hv1) (by kernel_rfl) (by kernel_rfl) ?_
  refine TS_go 2 ?_
  replace h := condO h
  rcases h with ⟨hb2, h⟩ | ⟨hb2, h⟩
  · subst hb2
    refine TS_go 1 ?_
    replace h := bindO h
    obtain ⟨v3, hv3, h⟩ := h
    refine TS_call [] (ok_ref39_ValidReports a1 v3 hv3) (by kernel_rfl) (by kernel_rfl) ?_
    refine TS_go 3 ?_
    replace h := condO h
    rcases h with ⟨hb4, h⟩ | ⟨hb4, h⟩
    · subst hb4
      refine TS_F (by kernel_rfl) rfl ?_
      refine TS_go 12 ?_
      refine TS_nilT 6 600000 56 3 (by kernel_rfl) ?_
      refine TS_cut ⟨[(0, []), (1, []), (6, []), (7, []), (8, [])], [(600000, (600000, []))]⟩ (.mk [.code (codeAt [1, 1, 1, 1, 0, 0] (bodyOf Try.f32)), .blk 0, .code (codeAt [1, 1, 1, 1, 1] (bodyOf Try.f32))] .normal ⟨[(0, .c (.slc 3 0 (List.length a0) (List.map S_Diagnostic.cs a0))), (1, .c (.slc 3 0 (List.length a1) (List.map S_Diagnostic.cs a1))), (6, .c (.slc 3 600002 (List.length ([] : List S_Diagnostic)) (List.map S_Diagnostic.cs ([] : List S_Diagnostic)))), (7, .c (.lit (.int .i64 (0)))), (8, .c (.lit (.int .i64 (0))))], [(600000, .spare 56 3 (List.length ([] : List S_Diagnostic)))]⟩) (by kernel_rfl) (by kernel_rfl) ?_
      replace h := bindO h
      obtain ⟨y7, hl1, hK1⟩ := h
      refine TS_loopB (F_ref39_Merge_l1 a0 a1) ⟨[(0, []), (1, []), (6, []), (7, []), (8, [])], [(600000, (600000, []))]⟩ (fun (s5 : (List S_Diagnostic) × Int × Int) => [(6, .c (.slc 3 600002 (List.length s5.1) (List.map S_Diagnostic.cs s5.1))), (7, .c (.lit (.int .i64 (s5.2.1)))), (8, .c (.lit (.int .i64 (s5.2.2))))]) (fun (s5 : (List S_Diagnostic) × Int × Int) => [(600000, .spare 56 3 (List.length s5.1))]) (([] : List S_Diagnostic), 0, 0) y7 (.exit 0) (fun (b : (List S_Diagnostic)) => b) ⟨[(6, [])], [(600000, (600000, []))]⟩ (fun (b6 : (List S_Diagnostic)) => [(6, .c (.slc 3 600002 (List.length b6) (List.map S_Diagnostic.cs b6)))]) (fun (b6 : (List S_Diagnostic)) => [(600000, .spare 56 3 (List.length b6))]) hl1 (by kernel_rfl) (by kernel_rfl) ?_ ?_
      · intro s5 x h hy1
        unfold F_ref39_Merge_l1 at h
        refine TS_go 8 ?_
        replace h := condO h
        rcases h with ⟨hb8, h⟩ | ⟨hb8, h⟩
        · refine TS_know 21 (b := true) hb8 (by kernel_rfl) (by kernel_rfl) ?_
          refine TS_know 22 (b := true) hb8 (by kernel_rfl) (by kernel_rfl) ?_
          refine TS_go 6 ?_
          refine TS_T (by kernel_rfl) rfl ?_
          refine TS_go 4 ?_
          refine TS_draw (by kernel_rfl) ?_
          refine TD_go 4 ?_
          replace h := condO h
          rcases h with ⟨hb9, h⟩ | ⟨hb9, h⟩
          · refine TD_know 56 (b := true) hb9 trivial (by kernel_rfl) (by kernel_rfl) ?_
            refine TD_go 19 ?_
            refine TD_end (by kernel_rfl) ?_
            refine TS_T (by kernel_rfl) rfl ?_
            refine TS_go 5 ?_
            replace h := bindO h
            obtain ⟨e10, he10, h⟩ := h
            refine TS_idx S_Diagnostic.cs he10 (by kernel_rfl) (by kernel_rfl) ?_
            refine TS_go 1 ?_
            replace h := bindO h
            obtain ⟨v11, hv11, h⟩ := h
            refine TS_con [] [(80, 900002)] none (okT_ref39_copyReport e10 v11 hv11) (by kernel_rfl) (by kernel_rfl) (by kernel_rfl) ?_
            refine TS_litNT 81 56 3 S_Diagnostic.cs [0, 0, 2] ([v11] : List S_Diagnostic) (by kernel_rfl) (by kernel_rfl) ?_
            replace h := bindO h
            obtain ⟨_l12, hl12, h⟩ := h
            refine TS_appT (d := 600000) (e := 56) (sz := 3) (N := List.length s5.1) S_Diagnostic.cs (fun _ => by kernel_rfl) (l1 := s5.1) (l2 := ([v11] : List S_Diagnostic)) (c := .whole) hl12 (by kernel_rfl) (by kernel_rfl) ?_
            refine TS_go 9 ?_
            have ret := Option.some.inj h
            subst ret
            exact TS_againB _ ⟨[(0, []), (1, []), (6, []), (7, []), (8, [])], [(600000, (600000, []))]⟩ rfl (by kernel_rfl) (by kernel_rfl)
          · refine TD_know 56 (b := false) hb9 trivial (by kernel_rfl) (by kernel_rfl) ?_
            refine TD_go 3 ?_
            refine TD_know 60 (b := true) hb8 trivial (by kernel_rfl) (by kernel_rfl) ?_
            refine TD_go 3 ?_
            replace h := bindO h
            obtain ⟨_e13, he13, h⟩ := h
            refine TD_idx S_Diagnostic.cs he13 (by kernel_rfl) (by kernel_rfl) ?_
            refine TD_go 4 ?_
            replace h := bindO h
            obtain ⟨_e14, he14, h⟩ := h
            refine TD_idx S_Diagnostic.cs he14 (by kernel_rfl) (by kernel_rfl) ?_
            refine TD_go 6 ?_
            refine TD_end (by kernel_rfl) ?_
            replace h := condO h
            rcases h with ⟨hb15, h⟩ | ⟨hb15, h⟩
            · refine TS_know 55 (b := false) hb9 (by kernel_rfl) (by kernel_rfl) ?_
              refine TS_know 72 (b := true) hb15 (by kernel_rfl) (by kernel_rfl) ?_
              refine TS_know 73 (b := true) hb15 (by kernel_rfl) (by kernel_rfl) ?_
              refine TS_know 74 (b := true) hb15 (by kernel_rfl) (by kernel_rfl) ?_
              refine TS_know 51 (b := true) hb15 (by kernel_rfl) (by kernel_rfl) ?_
              refine TS_T (by kernel_rfl) rfl ?_
              refine TS_go 5 ?_
              replace h := bindO h
              obtain ⟨e16, he16, h⟩ := h
              refine TS_idx S_Diagnostic.cs he16 (by kernel_rfl) (by kernel_rfl) ?_
              refine TS_go 1 ?_
              replace h := bindO h
              obtain ⟨v17, hv17, h⟩ := h
              refine TS_con [] [(80, 900002)] none (okT_ref39_copyReport e16 v17 hv17) (by kernel_rfl) (by kernel_rfl) (by kernel_rfl) ?_
              refine TS_litNT 81 56 3 S_Diagnostic.cs [0, 0, 2] ([v17] : List S_Diagnostic) (by kernel_rfl) (by kernel_rfl) ?_
              replace h := bindO h
              obtain ⟨_l18, hl18, h⟩ := h
              refine TS_appT (d := 600000) (e := 56) (sz := 3) (N := List.length s5.1) S_Diagnostic.cs (fun _ => by kernel_rfl) (l1 := s5.1) (l2 := ([v17] : List S_Diagnostic)) (c := .whole) hl18 (by kernel_rfl) (by kernel_rfl) ?_
              refine TS_go 9 ?_
              have ret := Option.some.inj h
              subst ret
              exact TS_againB _ ⟨[(0, []), (1, []), (6, []), (7, []), (8, [])], [(600000, (600000, []))]⟩ rfl (by kernel_rfl) (by kernel_rfl)
            · refine TS_know 55 (b := false) hb9 (by kernel_rfl) (by kernel_rfl) ?_
              refine TS_know 72 (b := false) hb15 (by kernel_rfl) (by kernel_rfl) ?_
              refine TS_know 73 (b := false) hb15 (by kernel_rfl) (by kernel_rfl) ?_
              refine TS_know 74 (b := false) hb15 (by kernel_rfl) (by kernel_rfl) ?_
              refine TS_know 51 (b := false) hb15 (by kernel_rfl) (by kernel_rfl) ?_
              refine TS_F (by kernel_rfl) rfl ?_
              refine TS_go 1 ?_
              refine TS_draw (by kernel_rfl) ?_
              refine TD_go 4 ?_
              replace h := condO h
              rcases h with ⟨hb19, h⟩ | ⟨hb19, h⟩
              · refine TD_know 90 (b := true) hb19 trivial (by kernel_rfl) (by kernel_rfl) ?_
                refine TD_go 13 ?_
                refine TD_end (by kernel_rfl) ?_
                refine TS_T (by kernel_rfl) rfl ?_
                refine TS_go 5 ?_
                replace h := bindO h
                obtain ⟨e20, he20, h⟩ := h
                refine TS_idx S_Diagnostic.cs he20 (by kernel_rfl) (by kernel_rfl) ?_
                refine TS_go 1 ?_
                replace h := bindO h
                obtain ⟨v21, hv21, h⟩ := h
                refine TS_con [] [(108, 900002)] none (okT_ref39_copyReport e20 v21 hv21) (by kernel_rfl) (by kernel_rfl) (by kernel_rfl) ?_
                refine TS_litNT 109 56 3 S_Diagnostic.cs [0, 0, 2] ([v21] : List S_Diagnostic) (by kernel_rfl) (by kernel_rfl) ?_
                replace h := bindO h
                obtain ⟨_l22, hl22, h⟩ := h
                refine TS_appT (d := 600000) (e := 56) (sz := 3) (N := List.length s5.1) S_Diagnostic.cs (fun _ => by kernel_rfl) (l1 := s5.1) (l2 := ([v21] : List S_Diagnostic)) (c := .whole) hl22 (by kernel_rfl) (by kernel_rfl) ?_
                refine TS_go 9 ?_
                have ret := Option.some.inj h
                subst ret
                exact TS_againB _ ⟨[(0, []), (1, []), (6, []), (7, []), (8, [])], [(600000, (600000, []))]⟩ rfl (by kernel_rfl) (by kernel_rfl)
              · refine TD_know 90 (b := false) hb19 trivial (by kernel_rfl) (by kernel_rfl) ?_
                refine TD_go 2 ?_
                replace h := bindO h
                obtain ⟨_e23, he23, h⟩ := h
                refine TD_idx S_Diagnostic.cs he23 (by kernel_rfl) (by kernel_rfl) ?_
                refine TD_go 4 ?_
                replace h := bindO h
                obtain ⟨_e24, he24, h⟩ := h
                refine TD_idx S_Diagnostic.cs he24 (by kernel_rfl) (by kernel_rfl) ?_
                refine TD_go 5 ?_
                refine TD_end (by kernel_rfl) ?_
                replace h := condO h
                rcases h with ⟨hb25, h⟩ | ⟨hb25, h⟩
                · refine TS_know 89 (b := false) hb19 (by kernel_rfl) (by kernel_rfl) ?_
                  refine TS_know 101 (b := true) hb25 (by kernel_rfl) (by kernel_rfl) ?_
                  refine TS_know 102 (b := true) hb25 (by kernel_rfl) (by kernel_rfl) ?_
                  refine TS_know 85 (b := true) hb25 (by kernel_rfl) (by kernel_rfl) ?_
                  refine TS_T (by kernel_rfl) rfl ?_
                  refine TS_go 5 ?_
                  replace h := bindO h
                  obtain ⟨e26, he26, h⟩ := h
                  refine TS_idx S_Diagnostic.cs he26 (by kernel_rfl) (by kernel_rfl) ?_
                  refine TS_go 1 ?_
                  replace h := bindO h
                  obtain ⟨v27, hv27, h⟩ := h
                  refine TS_con [] [(108, 900002)] none (okT_ref39_copyReport e26 v27 hv27) (by kernel_rfl) (by kernel_rfl) (by kernel_rfl) ?_
                  refine TS_litNT 109 56 3 S_Diagnostic.cs [0, 0, 2] ([v27] : List S_Diagnostic) (by kernel_rfl) (by kernel_rfl) ?_
                  replace h := bindO h
                  obtain ⟨_l28, hl28, h⟩ := h
                  refine TS_appT (d := 600000) (e := 56) (sz := 3) (N := List.length s5.1) S_Diagnostic.cs (fun _ => by kernel_rfl) (l1 := s5.1) (l2 := ([v27] : List S_Diagnostic)) (c := .whole) hl28 (by kernel_rfl) (by kernel_rfl) ?_
                  refine TS_go 9 ?_
                  have ret := Option.some.inj h
                  subst ret
                  exact TS_againB _ ⟨[(0, []), (1, []), (6, []), (7, []), (8, [])], [(600000, (600000, []))]⟩ rfl (by kernel_rfl) (by kernel_rfl)
                · refine TS_know 89 (b := false) hb19 (by kernel_rfl) (by kernel_rfl) ?_
                  refine TS_know 101 (b := false) hb25 (by kernel_rfl) (by kernel_rfl) ?_
                  refine TS_know 102 (b := false) hb25 (by kernel_rfl) (by kernel_rfl) ?_
                  refine TS_know 85 (b := false) hb25 (by kernel_rfl) (by kernel_rfl) ?_
                  refine TS_F (by kernel_rfl) rfl ?_
                  refine TS_go 4 ?_
                  replace h := bindO h
                  obtain ⟨e29, he29, h⟩ := h
                  refine TS_idx S_Diagnostic.cs he29 (by kernel_rfl) (by kernel_rfl) ?_
                  refine TS_go 4 ?_
                  refine TS_cut ⟨[(0, []), (1, []), (6, []), (7, []), (8, []), (9, [])], [(600000, (600000, [])), (9, (9, []))]⟩ (.mk [.code (codeAt [1, 1, 1, 1, 0, 0, 0, 1, 0, 0, 1, 1, 1, 1, 1] (bodyOf Try.f32)), .blk 2, .blk 1] .normal ⟨[(0, .c (.slc 3 0 (List.length a0) (List.map S_Diagnostic.cs a0))), (1, .c (.slc 3 0 (List.length a1) (List.map S_Diagnostic.cs a1))), (6, .c (.slc 3 600002 (List.length s5.1) (List.map S_Diagnostic.cs s5.1))), (7, .c (.lit (.int .i64 (s5.2.1)))), (8, .c (.lit (.int .i64 (s5.2.2)))), (9, .c (.box 9 0))], [(600000, .spare 56 3 (List.length s5.1)), (9, .box [.lit (.int .u64 (e29.Node)), .lit (.int .i64 (e29.Number)), .slc 1 0 (List.length e29.Data) (List.map (ecI .u8) e29.Data)])]⟩) (by kernel_rfl) (by kernel_rfl) ?_
                  refine TS_joinB ⟨[(0, []), (1, []), (6, []), (7, []), (8, []), (9, [])], [(600000, (600000, [])), (9, (9, []))]⟩ (fun (v30 : S_Diagnostic) => []) (fun (v30 : S_Diagnostic) => [(9, .box (S_Diagnostic.cs v30))]) (F_ref39_Merge_j2 s5) x ?_ ?_
                  · clear h
                    intro v30 h
                    unfold F_ref39_Merge_j2 at h
                    refine TS_go 4 ?_
                    replace h := bindO h
                    obtain ⟨v31, hv31, h⟩ := h
                    refine TS_con [] [(44, 900002)] none (okT_ref39_copyReport v30 v31 hv31) (by kernel_rfl) (by kernel_rfl) (by kernel_rfl) ?_
                    refine TS_litNT 45 56 3 S_Diagnostic.cs [0, 0, 2] ([v31] : List S_Diagnostic) (by kernel_rfl) (by kernel_rfl) ?_
                    replace h := bindO h
                    obtain ⟨_l32, hl32, h⟩ := h
                    refine TS_appT (d := 600000) (e := 56) (sz := 3) (N := List.length s5.1) S_Diagnostic.cs (fun _ => by kernel_rfl) (l1 := s5.1) (l2 := ([v31] : List S_Diagnostic)) (c := .whole) hl32 (by kernel_rfl) (by kernel_rfl) ?_
                    refine TS_go 15 ?_
                    have ret := Option.some.inj h
                    subst ret
                    exact TS_againB _ ⟨[(0, []), (1, []), (6, []), (7, []), (8, [])], [(600000, (600000, []))]⟩ rfl (by kernel_rfl) (by kernel_rfl)
                  · refine TS_go 1 ?_
                    refine TS_draw (by kernel_rfl) ?_
                    refine TD_go 2 ?_
                    replace h := bindO h
                    obtain ⟨e33, he33, h⟩ := h
                    refine TD_idx S_Diagnostic.cs he33 (by kernel_rfl) (by kernel_rfl) ?_
                    refine TD_go 2 ?_
                    replace h := bindO h
                    obtain ⟨v34, hv34, h⟩ := h
                    refine TD_call [] (ok_ref39_Better e33 e29 v34 hv34) (by kernel_rfl) (by kernel_rfl) ?_
                    refine TD_end (by kernel_rfl) ?_
                    replace h := condO h
                    rcases h with ⟨hb35, h⟩ | ⟨hb35, h⟩
                    · subst hb35
                      refine TS_T (by kernel_rfl) rfl ?_
                      refine TS_go 3 ?_
                      replace h := bindO h
                      obtain ⟨e36, he36, h⟩ := h
                      refine TS_idx S_Diagnostic.cs he36 (by kernel_rfl) (by kernel_rfl) ?_
                      refine TS_go 3 ?_
                      exact TS_meet e36 ⟨[(0, []), (1, []), (6, []), (7, []), (8, []), (9, [])], [(600000, (600000, [])), (9, (9, []))]⟩ h (by kernel_rfl) (by kernel_rfl)
                    · subst hb35
                      refine TS_F (by kernel_rfl) rfl ?_
                      refine TS_go 1 ?_
                      exact TS_meet e29 ⟨[(0, []), (1, []), (6, []), (7, []), (8, []), (9, [])], [(600000, (600000, [])), (9, (9, []))]⟩ h (by kernel_rfl) (by kernel_rfl)
        · refine TS_know 21 (b := false) hb8 (by kernel_rfl) (by kernel_rfl) ?_
          refine TS_know 22 (b := false) hb8 (by kernel_rfl) (by kernel_rfl) ?_
          refine TS_go 6 ?_
          replace h := condO h
          rcases h with ⟨hb37, h⟩ | ⟨hb37, h⟩
          · refine TS_know 26 (b := true) hb37 (by kernel_rfl) (by kernel_rfl) ?_
            refine TS_know 27 (b := true) hb37 (by kernel_rfl) (by kernel_rfl) ?_
            refine TS_T (by kernel_rfl) rfl ?_
            refine TS_go 4 ?_
            refine TS_draw (by kernel_rfl) ?_
            refine TD_go 4 ?_
            replace h := condO h
            rcases h with ⟨hb38, h⟩ | ⟨hb38, h⟩
            · refine TD_know 56 (b := true) hb38 trivial (by kernel_rfl) (by kernel_rfl) ?_
              refine TD_go 19 ?_
              refine TD_end (by kernel_rfl) ?_
              refine TS_T (by kernel_rfl) rfl ?_
              refine TS_go 5 ?_
              replace h := bindO h
              obtain ⟨e39, he39, h⟩ := h
              refine TS_idx S_Diagnostic.cs he39 (by kernel_rfl) (by kernel_rfl) ?_
              refine TS_go 1 ?_
              replace h := bindO h
              obtain ⟨v40, hv40, h⟩ := h
              refine TS_con [] [(80, 900002)] none (okT_ref39_copyReport e39 v40 hv40) (by kernel_rfl) (by kernel_rfl) (by kernel_rfl) ?_
              refine TS_litNT 81 56 3 S_Diagnostic.cs [0, 0, 2] ([v40] : List S_Diagnostic) (by kernel_rfl) (by kernel_rfl) ?_
              replace h := bindO h
              obtain ⟨_l41, hl41, h⟩ := h
              refine TS_appT (d := 600000) (e := 56) (sz := 3) (N := List.length s5.1) S_Diagnostic.cs (fun _ => by kernel_rfl) (l1 := s5.1) (l2 := ([v40] : List S_Diagnostic)) (c := .whole) hl41 (by kernel_rfl) (by kernel_rfl) ?_
              refine TS_go 9 ?_
              have ret := Option.some.inj h
              subst ret
              exact TS_againB _ ⟨[(0, []), (1, []), (6, []), (7, []), (8, [])], [(600000, (600000, []))]⟩ rfl (by kernel_rfl) (by kernel_rfl)
            · refine TD_know 56 (b := false) hb38 trivial (by kernel_rfl) (by kernel_rfl) ?_
              refine TD_go 3 ?_
              refine TD_know 60 (b := false) hb8 trivial (by kernel_rfl) (by kernel_rfl) ?_
              refine TD_go 15 ?_
              refine TD_end (by kernel_rfl) ?_
              refine TS_F (by kernel_rfl) rfl ?_
              refine TS_go 1 ?_
              refine TS_draw (by kernel_rfl) ?_
              refine TD_go 4 ?_
              replace h := condO h
              rcases h with ⟨hb42, h⟩ | ⟨hb42, h⟩
              · refine TD_know 90 (b := true) hb42 trivial (by kernel_rfl) (by kernel_rfl) ?_
                refine TD_go 13 ?_
                refine TD_end (by kernel_rfl) ?_
                refine TS_T (by kernel_rfl) rfl ?_
                refine TS_go 5 ?_
                replace h := bindO h
                obtain ⟨e43, he43, h⟩ := h
                refine TS_idx S_Diagnostic.cs he43 (by kernel_rfl) (by kernel_rfl) ?_
                refine TS_go 1 ?_
                replace h := bindO h
                obtain ⟨v44, hv44, h⟩ := h
                refine TS_con [] [(108, 900002)] none (okT_ref39_copyReport e43 v44 hv44) (by kernel_rfl) (by kernel_rfl) (by kernel_rfl) ?_
                refine TS_litNT 109 56 3 S_Diagnostic.cs [0, 0, 2] ([v44] : List S_Diagnostic) (by kernel_rfl) (by kernel_rfl) ?_
                replace h := bindO h
                obtain ⟨_l45, hl45, h⟩ := h
                refine TS_appT (d := 600000) (e := 56) (sz := 3) (N := List.length s5.1) S_Diagnostic.cs (fun _ => by kernel_rfl) (l1 := s5.1) (l2 := ([v44] : List S_Diagnostic)) (c := .whole) hl45 (by kernel_rfl) (by kernel_rfl) ?_
                refine TS_go 9 ?_
                have ret := Option.some.inj h
                subst ret
                exact TS_againB _ ⟨[(0, []), (1, []), (6, []), (7, []), (8, [])], [(600000, (600000, []))]⟩ rfl (by kernel_rfl) (by kernel_rfl)
              · refine TD_know 90 (b := false) hb42 trivial (by kernel_rfl) (by kernel_rfl) ?_
                refine TD_go 2 ?_
                replace h := bindO h
                obtain ⟨_e46, he46, h⟩ := h
                refine TD_idx S_Diagnostic.cs he46 (by kernel_rfl) (by kernel_rfl) ?_
                refine TD_go 4 ?_
                replace h := bindO h
                obtain ⟨_e47, he47, h⟩ := h
                refine TD_idx S_Diagnostic.cs he47 (by kernel_rfl) (by kernel_rfl) ?_
                refine TD_go 5 ?_
                refine TD_end (by kernel_rfl) ?_
                replace h := condO h
                rcases h with ⟨hb48, h⟩ | ⟨hb48, h⟩
                · refine TS_know 55 (b := false) hb38 (by kernel_rfl) (by kernel_rfl) ?_
                  refine TS_know 89 (b := false) hb42 (by kernel_rfl) (by kernel_rfl) ?_
                  refine TS_know 101 (b := true) hb48 (by kernel_rfl) (by kernel_rfl) ?_
                  refine TS_know 102 (b := true) hb48 (by kernel_rfl) (by kernel_rfl) ?_
                  refine TS_know 85 (b := true) hb48 (by kernel_rfl) (by kernel_rfl) ?_
                  refine TS_T (by kernel_rfl) rfl ?_
                  refine TS_go 5 ?_
                  replace h := bindO h
                  obtain ⟨e49, he49, h⟩ := h
                  refine TS_idx S_Diagnostic.cs he49 (by kernel_rfl) (by kernel_rfl) ?_
                  refine TS_go 1 ?_
                  replace h := bindO h
                  obtain ⟨v50, hv50, h⟩ := h
                  refine TS_con [] [(108, 900002)] none (okT_ref39_copyReport e49 v50 hv50) (by kernel_rfl) (by kernel_rfl) (by kernel_rfl) ?_
                  refine TS_litNT 109 56 3 S_Diagnostic.cs [0, 0, 2] ([v50] : List S_Diagnostic) (by kernel_rfl) (by kernel_rfl) ?_
                  replace h := bindO h
                  obtain ⟨_l51, hl51, h⟩ := h
                  refine TS_appT (d := 600000) (e := 56) (sz := 3) (N := List.length s5.1) S_Diagnostic.cs (fun _ => by kernel_rfl) (l1 := s5.1) (l2 := ([v50] : List S_Diagnostic)) (c := .whole) hl51 (by kernel_rfl) (by kernel_rfl) ?_
                  refine TS_go 9 ?_
                  have ret := Option.some.inj h
                  subst ret
                  exact TS_againB _ ⟨[(0, []), (1, []), (6, []), (7, []), (8, [])], [(600000, (600000, []))]⟩ rfl (by kernel_rfl) (by kernel_rfl)
                · refine TS_know 55 (b := false) hb38 (by kernel_rfl) (by kernel_rfl) ?_
                  refine TS_know 89 (b := false) hb42 (by kernel_rfl) (by kernel_rfl) ?_
                  refine TS_know 101 (b := false) hb48 (by kernel_rfl) (by kernel_rfl) ?_
                  refine TS_know 102 (b := false) hb48 (by kernel_rfl) (by kernel_rfl) ?_
                  refine TS_know 85 (b := false) hb48 (by kernel_rfl) (by kernel_rfl) ?_
                  refine TS_F (by kernel_rfl) rfl ?_
                  refine TS_go 4 ?_
                  replace h := bindO h
                  obtain ⟨e52, he52, h⟩ := h
                  refine TS_idx S_Diagnostic.cs he52 (by kernel_rfl) (by kernel_rfl) ?_
                  refine TS_go 4 ?_
                  refine TS_cut ⟨[(0, []), (1, []), (6, []), (7, []), (8, []), (9, [])], [(600000, (600000, [])), (9, (9, []))]⟩ (.mk [.code (codeAt [1, 1, 1, 1, 0, 0, 0, 1, 0, 0, 1, 1, 1, 1, 1] (bodyOf Try.f32)), .blk 2, .blk 1] .normal ⟨[(0, .c (.slc 3 0 (List.length a0) (List.map S_Diagnostic.cs a0))), (1, .c (.slc 3 0 (List.length a1) (List.map S_Diagnostic.cs a1))), (6, .c (.slc 3 600002 (List.length s5.1) (List.map S_Diagnostic.cs s5.1))), (7, .c (.lit (.int .i64 (s5.2.1)))), (8, .c (.lit (.int .i64 (s5.2.2)))), (9, .c (.box 9 0))], [(600000, .spare 56 3 (List.length s5.1)), (9, .box [.lit (.int .u64 (e52.Node)), .lit (.int .i64 (e52.Number)), .slc 1 0 (List.length e52.Data) (List.map (ecI .u8) e52.Data)])]⟩) (by kernel_rfl) (by kernel_rfl) ?_
                  refine TS_joinB ⟨[(0, []), (1, []), (6, []), (7, []), (8, []), (9, [])], [(600000, (600000, [])), (9, (9, []))]⟩ (fun (v53 : S_Diagnostic) => []) (fun (v53 : S_Diagnostic) => [(9, .box (S_Diagnostic.cs v53))]) (F_ref39_Merge_j3 s5) x ?_ ?_
                  · clear h
                    intro v53 h
                    unfold F_ref39_Merge_j3 at h
                    refine TS_go 4 ?_
                    replace h := bindO h
                    obtain ⟨v54, hv54, h⟩ := h
                    refine TS_con [] [(44, 900002)] none (okT_ref39_copyReport v53 v54 hv54) (by kernel_rfl) (by kernel_rfl) (by kernel_rfl) ?_
                    refine TS_litNT 45 56 3 S_Diagnostic.cs [0, 0, 2] ([v54] : List S_Diagnostic) (by kernel_rfl) (by kernel_rfl) ?_
                    replace h := bindO h
                    obtain ⟨_l55, hl55, h⟩ := h
                    refine TS_appT (d := 600000) (e := 56) (sz := 3) (N := List.length s5.1) S_Diagnostic.cs (fun _ => by kernel_rfl) (l1 := s5.1) (l2 := ([v54] : List S_Diagnostic)) (c := .whole) hl55 (by kernel_rfl) (by kernel_rfl) ?_
                    refine TS_go 15 ?_
                    have ret := Option.some.inj h
                    subst ret
                    exact TS_againB _ ⟨[(0, []), (1, []), (6, []), (7, []), (8, [])], [(600000, (600000, []))]⟩ rfl (by kernel_rfl) (by kernel_rfl)
                  · refine TS_go 1 ?_
                    refine TS_draw (by kernel_rfl) ?_
                    refine TD_go 2 ?_
                    replace h := bindO h
                    obtain ⟨e56, he56, h⟩ := h
                    refine TD_idx S_Diagnostic.cs he56 (by kernel_rfl) (by kernel_rfl) ?_
                    refine TD_go 2 ?_
                    replace h := bindO h
                    obtain ⟨v57, hv57, h⟩ := h
                    refine TD_call [] (ok_ref39_Better e56 e52 v57 hv57) (by kernel_rfl) (by kernel_rfl) ?_
                    refine TD_end (by kernel_rfl) ?_
                    replace h := condO h
                    rcases h with ⟨hb58, h⟩ | ⟨hb58, h⟩
                    · subst hb58
                      refine TS_T (by kernel_rfl) rfl ?_
                      refine TS_go 3 ?_
                      replace h := bindO h
                      obtain ⟨e59, he59, h⟩ := h
                      refine TS_idx S_Diagnostic.cs he59 (by kernel_rfl) (by kernel_rfl) ?_
                      refine TS_go 3 ?_
                      exact TS_meet e59 ⟨[(0, []), (1, []), (6, []), (7, []), (8, []), (9, [])], [(600000, (600000, [])), (9, (9, []))]⟩ h (by kernel_rfl) (by kernel_rfl)
                    · subst hb58
                      refine TS_F (by kernel_rfl) rfl ?_
                      refine TS_go 1 ?_
                      exact TS_meet e52 ⟨[(0, []), (1, []), (6, []), (7, []), (8, []), (9, [])], [(600000, (600000, [])), (9, (9, []))]⟩ h (by kernel_rfl) (by kernel_rfl)
          · refine TS_know 26 (b := false) hb37 (by kernel_rfl) (by kernel_rfl) ?_
            refine TS_know 27 (b := false) hb37 (by kernel_rfl) (by kernel_rfl) ?_
            refine TS_F (by kernel_rfl) rfl ?_
            refine TS_go 2 ?_
            have ret := Option.some.inj h
            subst ret
            exact TS_brkB s5.1 ⟨[(6, [])], [(600000, (600000, []))]⟩ rfl (by kernel_rfl) (by kernel_rfl) (by kernel_rfl)
      · intro b6 hb
        subst y7
        have h := hK1
        refine TS_go 8 ?_
        replace h := condO h
        rcases h with ⟨hb61, h⟩ | ⟨hb61, h⟩
        · refine TS_know 115 (b := true) hb61 (by kernel_rfl) (by kernel_rfl) ?_
          refine TS_T (by kernel_rfl) rfl ?_
          refine TS_go 5 ?_
          refine TS_nilT 4 600001 56 3 (by kernel_rfl) ?_
          refine TS_fitU ⟨[(4, []), (5, [])], [(600001, (900000, []))]⟩ (by kernel_rfl) ?_
          refine TS_go 2 ?_
          have ret := Option.some.inj h
          subst ret
          exact TS_ret (by kernel_rfl) (by kernel_rfl) (by kernel_rfl)
        · refine TS_know 115 (b := false) hb61 (by kernel_rfl) (by kernel_rfl) ?_
          refine TS_F (by kernel_rfl) rfl ?_
          refine TS_go 7 ?_
          refine TS_fitU ⟨[(4, []), (5, [])], [(600000, (900000, []))]⟩ (by kernel_rfl) ?_
          refine TS_go 1 ?_
          have ret := Option.some.inj h
          subst ret
          exact TS_ret (by kernel_rfl) (by kernel_rfl) (by kernel_rfl)
    · subst hb4
      refine TS_T (by kernel_rfl) rfl ?_
      refine TS_go 5 ?_
      refine TS_nilT 4 600000 56 3 (by kernel_rfl) ?_
      refine TS_fitU ⟨[(4, []), (5, [])], [(600000, (900000, []))]⟩ (by kernel_rfl) ?_
      refine TS_go 2 ?_
      have ret := Option.some.inj h
      subst ret
      exact TS_ret (by kernel_rfl) (by kernel_rfl) (by kernel_rfl)
  · subst hb2
    refine TS_go 5 ?_
    refine TS_T (by kernel_rfl) rfl ?_
    refine TS_go 5 ?_
    refine TS_nilT 4 600000 56 3 (by kernel_rfl) ?_
    refine TS_fitU ⟨[(4, []), (5, [])], [(600000, (900000, []))]⟩ (by kernel_rfl) ?_
    refine TS_go 2 ?_
    have ret := Option.some.inj h
    subst ret
    exact TS_ret (by kernel_rfl) (by kernel_rfl) (by kernel_rfl)
/-- multihop/multihopref39.Report -/
noncomputable def F_ref39_Report (a0 : List S_Diagnostic) (a1 : S_Diagnostic) : Option ((List S_Diagnostic) × Int) :=
  (F_ref39_ValidReports a0).bind fun v1 =>
  bif v1 then
    (F_ref39_validReport a1).bind fun v3 =>
    bif v3 then
      bif (decide (a1.Number < 0)) then
        some ((([] : List S_Diagnostic), 2))
      else
        bif (decide (a1.Number > 1073741824)) then
          some ((([] : List S_Diagnostic), 2))
        else
          (F_ref39_Merge a0 ([a1] : List S_Diagnostic)).bind fun v7 =>
          some ((v7.1, v7.2))
    else
      some ((([] : List S_Diagnostic), 1))
  else
    some ((([] : List S_Diagnostic), 1))
set_option maxRecDepth 100000 in
set_option maxHeartbeats 40000000 in
theorem okT_ref39_Report (a0 : List S_Diagnostic) (a1 : S_Diagnostic) (r : (List S_Diagnostic) × Int) (h : F_ref39_Report a0 a1 = some r) : Con Try.prog 35 [.c (eS 3 S_Diagnostic.cs (a0)), .agg (S_Diagnostic.cs a1)] [] (.tup [(false, [.slc 3 900002 (List.length r.1) (List.map S_Diagnostic.cs r.1)]), (false, [.lit (.int .i64 (r.2))])]) [(900000, .spare 56 3 (List.length r.1))] := by
  unfold F_ref39_Report at h
  refine con_of [] [(900000, [])] 28 Try.func35 rfl rfl (by kernel_rfl) (fun K => ?_)
  refine TS_go 10 ?_
  replace h := bindO h
  obtain ⟨v1, hv1, h⟩ := h
  refine TS_call [] (ok_ref39_ValidReports a0 v1 hv1) (by kernel_rfl) (by kernel_rfl) ?_
  refine TS_go 2 ?_
  replace h := condO h
  rcases h with ⟨hb2, h⟩ | ⟨hb2, h⟩
  · subst hb2
    refine TS_go 1 ?_
    replace h := bindO h
    obtain ⟨v3, hv3, h⟩ := h
    refine TS_call [] (ok_ref39_validReport a1 v3 hv3) (by kernel_rfl) (by kernel_rfl) ?_
    refine TS_go 3 ?_
    replace h := condO h
    rcases h with ⟨hb4, h⟩ | ⟨hb4, h⟩
    · subst hb4
      refine TS_F (by kernel_rfl) rfl ?_
      refine TS_go 8 ?_
      replace h := condO h
      rcases h with ⟨hb5, h⟩ | ⟨hb5, h⟩
      · refine TS_know 16 (b := true) hb5 (by kernel_rfl) (by kernel_rfl) ?_
        refine TS_know 17 (b := true) hb5 (by kernel_rfl) (by kernel_rfl) ?_
        refine TS_go 5 ?_
        refine TS_T (by kernel_rfl) rfl ?_
        refine TS_go 5 ?_
        refine TS_nilT 4 600000 56 3 (by kernel_rfl) ?_
        refine TS_fitU ⟨[(4, []), (5, [])], [(600000, (900000, []))]⟩ (by kernel_rfl) ?_
        refine TS_go 2 ?_
        have ret := Option.some.inj h
        subst ret
        exact TS_ret (by kernel_rfl) (by kernel_rfl) (by kernel_rfl)
      · refine TS_know 16 (b := false) hb5 (by kernel_rfl) (by kernel_rfl) ?_
        refine TS_know 17 (b := false) hb5 (by kernel_rfl) (by kernel_rfl) ?_
        refine TS_go 5 ?_
        replace h := condO h
        rcases h with ⟨hb6, h⟩ | ⟨hb6, h⟩
        · refine TS_know 20 (b := true) hb6 (by kernel_rfl) (by kernel_rfl) ?_
          refine TS_know 21 (b := true) hb6 (by kernel_rfl) (by kernel_rfl) ?_
          refine TS_T (by kernel_rfl) rfl ?_
          refine TS_go 5 ?_
          refine TS_nilT 4 600000 56 3 (by kernel_rfl) ?_
          refine TS_fitU ⟨[(4, []), (5, [])], [(600000, (900000, []))]⟩ (by kernel_rfl) ?_
          refine TS_go 2 ?_
          have ret := Option.some.inj h
          subst ret
          exact TS_ret (by kernel_rfl) (by kernel_rfl) (by kernel_rfl)
        · refine TS_know 20 (b := false) hb6 (by kernel_rfl) (by kernel_rfl) ?_
          refine TS_know 21 (b := false) hb6 (by kernel_rfl) (by kernel_rfl) ?_
          refine TS_F (by kernel_rfl) rfl ?_
          refine TS_go 5 ?_
          refine TS_litNT 24 56 3 S_Diagnostic.cs [0, 0, 2] ([a1] : List S_Diagnostic) (by kernel_rfl) (by kernel_rfl) ?_
          replace h := bindO h
          obtain ⟨v7, hv7, h⟩ := h
          refine TS_con [[], [4]] [(25, 900000)] none (okT_ref39_Merge a0 ([a1] : List S_Diagnostic) v7 hv7) (by kernel_rfl) (by kernel_rfl) (by kernel_rfl) ?_
          refine TS_go 5 ?_
          refine TS_fitU ⟨[(4, []), (5, [])], [(25, (900000, []))]⟩ (by kernel_rfl) ?_
          refine TS_go 1 ?_
          have ret := Option.some.inj h
          subst ret
          exact TS_ret (by kernel_rfl) (by kernel_rfl) (by kernel_rfl)
    · subst hb4
      refine TS_T (by kernel_rfl) rfl ?_
      refine TS_go 5 ?_
      refine TS_nilT 4 600000 56 3 (by kernel_rfl) ?_
      refine TS_fitU ⟨[(4, []), (5, [])], [(600000, (900000, []))]⟩ (by kernel_rfl) ?_
      refine TS_go 2 ?_
      have ret := Option.some.inj h
      subst ret
      exact TS_ret (by kernel_rfl) (by kernel_rfl) (by kernel_rfl)
  · subst hb2
    refine TS_go 5 ?_
    refine TS_T (by kernel_rfl) rfl ?_
    refine TS_go 5 ?_
    refine TS_nilT 4 600000 56 3 (by kernel_rfl) ?_
    refine TS_fitU ⟨[(4, []), (5, [])], [(600000, (900000, []))]⟩ (by kernel_rfl) ?_
    refine TS_go 2 ?_
    have ret := Option.some.inj h
    subst ret
    exact TS_ret (by kernel_rfl) (by kernel_rfl) (by kernel_rfl)
/-- multihop/multihopworld.Reports -/
noncomputable def F_world_Reports_j2 (s2 : (List S_Diagnostic) × Int × S_multihopmade_Tape) (v6 : (List S_Diagnostic) × S_multihopmade_Tape) : Option (((List S_Diagnostic) × Int × S_multihopmade_Tape) ⊕ ((List S_Diagnostic) × S_multihopmade_Tape)) :=
  some (Sum.inl (v6.1, IntKind.wrap .i64 (s2.2.1 - 1), v6.2))
noncomputable def F_world_Reports_l1  (s2 : (List S_Diagnostic) × Int × S_multihopmade_Tape) : Option (((List S_Diagnostic) × Int × S_multihopmade_Tape) ⊕ ((List S_Diagnostic) × S_multihopmade_Tape)) :=
  bif (decide (s2.2.1 > 0)) then
    (F_world_EUI s2.2.2).bind fun v7 =>
    (F_made_Tape_Next v7.2 4).bind fun v8 =>
    (F_made_Tape_Bytes v8.2 6).bind fun v9 =>
    (F_ref39_Report s2.1 (S_Diagnostic.mk v7.1 v8.1 v9.1)).bind fun v10 =>
    bif (v10.2 == 0) then
      (F_world_Reports_j2 s2) (v10.1, v9.2)
    else
      (F_world_Reports_j2 s2) (s2.1, v9.2)
  else
    some (Sum.inr (s2.1, s2.2.2))
noncomputable def F_world_Reports (a0 : S_multihopmade_Tape) : Option ((List S_Diagnostic) × S_multihopmade_Tape) :=
  (F_made_Tape_Next a0 6).bind fun v1 =>
  (loopO (F_world_Reports_l1) (([] : List S_Diagnostic), v1.1, v1.2)).bind fun b3 =>
  some ((b3.1, b3.2))
set_option maxRecDepth 100000 in
set_option maxHeartbeats 40000000 in
theorem okT_world_Reports (a0 : S_multihopmade_Tape) (r : (List S_Diagnostic) × S_multihopmade_Tape) (h : F_world_Reports a0 = some r) : Con Try.prog 25 [.c (.box 1000000 0)] [(1000000, .box (S_multihopmade_Tape.cs a0))] (.c (.slc 3 900002 (List.length r.1) (List.map S_Diagnostic.cs r.1))) [(1000000, .box (S_multihopmade_Tape.cs r.2)), (900000, .spare 56 3 (List.length r.1))] := by
  unfold F_world_Reports at h
  refine con_of [] [(1000000, [2]), (900000, [])] 29 Try.func25 rfl rfl (by kernel_rfl) (fun K => ?_)
  refine TS_go 12 ?_
  replace h := bindO h
  obtain ⟨v1, hv1, h⟩ := h
  refine TS_con [] [] (some (1000000, 0)) (ok_made_Tape_Next a0 6 v1 hv1) (by kernel_rfl) (by kernel_rfl) (by kernel_rfl) ?_
  refine TS_go 3 ?_
  refine TS_nilT 3 600000 56 3 (by kernel_rfl) ?_
  refine TS_cut ⟨[(0, []), (3, []), (4, [])], [(1000000, (1000000, [])), (600000, (600000, []))]⟩ (.mk [.code (codeAt [1, 1, 0, 1, 0] (bodyOf Try.f25)), .blk 0, .code (codeAt [1, 1, 1] (bodyOf Try.f25))] .normal ⟨[(0, .c (.box 1000000 0)), (3, .c (.slc 3 600002 (List.length ([] : List S_Diagnostic)) (List.map S_Diagnostic.cs ([] : List S_Diagnostic)))), (4, .c (.lit (.int .i64 (v1.1))))], [(1000000, .box [.slc 1 0 (List.length v1.2.l) (List.map (ecI .i64) v1.2.l), .lit (.int .i64 (v1.2.at_))]), (600000, .spare 56 3 (List.length ([] : List S_Diagnostic)))]⟩) (by kernel_rfl) (by kernel_rfl) ?_
  replace h := bindO h
  obtain ⟨y4, hl1, hK1⟩ := h
  refine TS_loopB (F_world_Reports_l1) ⟨[(0, []), (3, []), (4, [])], [(1000000, (1000000, [])), (600000, (600000, []))]⟩ (fun (s2 : (List S_Diagnostic) × Int × S_multihopmade_Tape) => [(3, .c (.slc 3 600002 (List.length s2.1) (List.map S_Diagnostic.cs s2.1))), (4, .c (.lit (.int .i64 (s2.2.1))))]) (fun (s2 : (List S_Diagnostic) × Int × S_multihopmade_Tape) => [(1000000, .box (S_multihopmade_Tape.cs s2.2.2)), (600000, .spare 56 3 (List.length s2.1))]) (([] : List S_Diagnostic), v1.1, v1.2) y4 (.exit 0) (fun (b : (List S_Diagnostic) × S_multihopmade_Tape) => b) ⟨[(3, [])], [(1000000, (1000000, [])), (600000, (600000, []))]⟩ (fun (b3 : (List S_Diagnostic) × S_multihopmade_Tape) => [(3, .c (.slc 3 600002 (List.length b3.1) (List.map S_Diagnostic.cs b3.1)))]) (fun (b3 : (List S_Diagnostic) × S_multihopmade_Tape) => [(1000000, .box (S_multihopmade_Tape.cs b3.2)), (600000, .spare 56 3 (List.length b3.1))]) hl1 (by kernel_rfl) (by kernel_rfl) ?_ ?_
  · intro s2 x h hy1
    unfold F_world_Reports_l1 at h
    refine TS_go 6 ?_
    replace h := condO h
    rcases h with ⟨hb5, h⟩ | ⟨hb5, h⟩
    · refine TS_know 10 (b := true) hb5 (by kernel_rfl) (by kernel_rfl) ?_
      refine TS_T (by kernel_rfl) rfl ?_
      refine TS_go 1 ?_
      refine TS_cut ⟨[(0, []), (3, []), (4, [])], [(1000000, (1000000, [])), (600000, (600000, []))]⟩ (.mk [.code (codeAt [1, 1, 0, 1, 0, 0, 1] (bodyOf Try.f25))] .normal ⟨[(0, .c (.box 1000000 0)), (3, .c (.slc 3 600002 (List.length s2.1) (List.map S_Diagnostic.cs s2.1))), (4, .c (.lit (.int .i64 (s2.2.1))))], [(1000000, .box [.slc 1 0 (List.length s2.2.2.l) (List.map (ecI .i64) s2.2.2.l), .lit (.int .i64 (s2.2.2.at_))]), (600000, .spare 56 3 (List.length s2.1))]⟩) (by kernel_rfl) (by kernel_rfl) ?_
      refine TS_joinB ⟨[(0, []), (3, []), (4, [])], [(1000000, (1000000, [])), (600000, (600000, []))]⟩ (fun (v6 : (List S_Diagnostic) × S_multihopmade_Tape) => [(3, .c (.slc 3 600002 (List.length v6.1) (List.map S_Diagnostic.cs v6.1)))]) (fun (v6 : (List S_Diagnostic) × S_multihopmade_Tape) => [(1000000, .box (S_multihopmade_Tape.cs v6.2)), (600000, .spare 56 3 (List.length v6.1))]) (F_world_Reports_j2 s2) x ?_ ?_
      · clear h
        intro v6 h
        unfold F_world_Reports_j2 at h
        refine TS_go 5 ?_
        have ret := Option.some.inj h
        subst ret
        exact TS_againB _ ⟨[(0, []), (3, []), (4, [])], [(1000000, (1000000, [])), (600000, (600000, []))]⟩ rfl (by kernel_rfl) (by kernel_rfl)
      · refine TS_go 5 ?_
        replace h := bindO h
        obtain ⟨v7, hv7, h⟩ := h
        refine TS_con [] [] (some (1000000, 0)) (ok_world_EUI s2.2.2 v7 hv7) (by kernel_rfl) (by kernel_rfl) (by kernel_rfl) ?_
        refine TS_go 1 ?_
        replace h := bindO h
        obtain ⟨v8, hv8, h⟩ := h
        refine TS_con [] [] (some (1000000, 0)) (ok_made_Tape_Next v7.2 4 v8 hv8) (by kernel_rfl) (by kernel_rfl) (by kernel_rfl) ?_
        refine TS_go 1 ?_
        replace h := bindO h
        obtain ⟨v9, hv9, h⟩ := h
        refine TS_con [] [(20, 900000)] (some (1000000, 0)) (okT_made_Tape_Bytes v8.2 6 v9 hv9) (by kernel_rfl) (by kernel_rfl) (by kernel_rfl) ?_
        refine TS_go 1 ?_
        replace h := bindO h
        obtain ⟨v10, hv10, h⟩ := h
        refine TS_con [[4], [0, 0, 2]] [(22, 900000)] none (okT_ref39_Report s2.1 (S_Diagnostic.mk v7.1 v8.1 v9.1) v10 hv10) (by kernel_rfl) (by kernel_rfl) (by kernel_rfl) ?_
        refine TS_go 11 ?_
        replace h := condO h
        rcases h with ⟨hb11, h⟩ | ⟨hb11, h⟩
        · refine TS_know 26 (b := true) hb11 (by kernel_rfl) (by kernel_rfl) ?_
          refine TS_T (by kernel_rfl) rfl ?_
          refine TS_go 5 ?_
          exact TS_meet (v10.1, v9.2) ⟨[(0, []), (3, []), (4, [])], [(1000000, (1000000, [])), (22, (600000, []))]⟩ h (by kernel_rfl) (by kernel_rfl)
        · refine TS_know 26 (b := false) hb11 (by kernel_rfl) (by kernel_rfl) ?_
          refine TS_F (by kernel_rfl) rfl ?_
          refine TS_go 2 ?_
          exact TS_meet (s2.1, v9.2) ⟨[(0, []), (3, []), (4, [])], [(1000000, (1000000, [])), (600000, (600000, []))]⟩ h (by kernel_rfl) (by kernel_rfl)
    · refine TS_know 10 (b := false) hb5 (by kernel_rfl) (by kernel_rfl) ?_
      refine TS_F (by kernel_rfl) rfl ?_
      refine TS_go 2 ?_
      have ret := Option.some.inj h
      subst ret
      exact TS_brkB (s2.1, s2.2.2) ⟨[(3, [])], [(1000000, (1000000, [])), (600000, (600000, []))]⟩ rfl (by kernel_rfl) (by kernel_rfl) (by kernel_rfl)
  · intro b3 hb
    subst y4
    have h := hK1
    refine TS_go 6 ?_
    refine TS_fitU ⟨[(2, [])], [(600000, (900000, [])), (1000000, (1000000, []))]⟩ (by kernel_rfl) ?_
    refine TS_go 1 ?_
    have ret := Option.some.inj h
    subst ret
    exact TS_ret (by kernel_rfl) (by kernel_rfl) (by kernel_rfl)
/-- multihop/management.Merge -/
noncomputable def F_management_Merge_j1  (v6 : (List S_Diagnostic) × Int) : Option ((List S_Diagnostic) × Int) :=
  some ((v6.1, v6.2))
noncomputable def F_management_Merge (a0 : List S_Diagnostic) (a1 : List S_Diagnostic) : Option ((List S_Diagnostic) × Int) :=
  (F_management_ValidReports a0).bind fun v1 =>
  bif v1 then
    (F_management_ValidReports a1).bind fun v3 =>
    bif v3 then
      (F_management_union a0 a1).bind fun v5 =>
      bif (decide ((List.length v5 : Int) > 64)) then
        (F_management_Merge_j1) (([] : List S_Diagnostic), 10)
      else
        (F_management_Merge_j1) (v5, 0)
    else
      some ((([] : List S_Diagnostic), 1))
  else
    some ((([] : List S_Diagnostic), 1))
set_option maxRecDepth 100000 in
set_option maxHeartbeats 40000000 in
theorem ok_management_Merge (a0 : List S_Diagnostic) (a1 : List S_Diagnostic) (r : (List S_Diagnostic) × Int) (h : F_management_Merge a0 a1 = some r) : Con Try.prog 26 [.c (eS 3 S_Diagnostic.cs (a0)), .c (eS 3 S_Diagnostic.cs (a1))] [] (.tup [(false, [eS 3 S_Diagnostic.cs (r.1)]), (false, [.lit (.int .i64 (r.2))])]) [] := by
  unfold F_management_Merge at h
  refine con_of [[4]] [] 20 Try.func26 rfl rfl (by kernel_rfl) (fun K => ?_)
  refine TS_go 9 ?_
  replace h := bindO h
  obtain ⟨v1, hv1, h⟩ := h
  refine TS_call [] (ok_management_ValidReports a0 v1 hv1) (by kernel_rfl) (by kernel_rfl) ?_
  refine TS_go 2 ?_
  replace h := condO h
  rcases h with ⟨hb2, h⟩ | ⟨hb2, h⟩
  · subst hb2
    refine TS_go 1 ?_
    replace h := bindO h
    obtain ⟨v3, hv3, h⟩ := h
    refine TS_call [] (ok_management_ValidReports a1 v3 hv3) (by kernel_rfl) (by kernel_rfl) ?_
    refine TS_go 3 ?_
    replace h := condO h
    rcases h with ⟨hb4, h⟩ | ⟨hb4, h⟩
    · subst hb4
      refine TS_F (by kernel_rfl) rfl ?_
      refine TS_go 5 ?_
      replace h := bindO h
      obtain ⟨v5, hv5, h⟩ := h
      refine TS_con [] [(16, 900000)] none (okT_management_union a0 a1 v5 hv5) (by kernel_rfl) (by kernel_rfl) (by kernel_rfl) ?_
      refine TS_cut ⟨[(16, [])], [(16, (16, []))]⟩ (.mk [opsFr (codeAt [1, 1, 0] (bodyOf Try.f26)) 3, .code (codeAt [1, 1, 1] (bodyOf Try.f26))] .normal ⟨[(16, .c (.slc 3 18 (List.length v5) (List.map S_Diagnostic.cs v5)))], [(16, .spare 56 3 (List.length v5))]⟩) (by kernel_rfl) (by kernel_rfl) ?_
      refine TS_bump 2000 (by kernel_rfl) ?_
      refine TS_inlJ 8 Try.func54 rfl rfl ⟨[], []⟩ (fun (v6 : (List S_Diagnostic) × Int) => [(17, .tup [(false, [.slc 3 0 (List.length v6.1) (List.map S_Diagnostic.cs v6.1)]), (false, [.lit (.int .i64 (v6.2))])])]) (fun (v6 : (List S_Diagnostic) × Int) => []) (F_management_Merge_j1) r (by kernel_rfl) ?_ (fun K8 => ?_)
      · clear h
        intro v6 h
        unfold F_management_Merge_j1 at h
        refine TS_go 6 ?_
        have ret := Option.some.inj h
        subst ret
        exact TS_ret (by kernel_rfl) (by kernel_rfl) (by kernel_rfl)
      · refine TS_go 12 ?_
        replace h := condO h
        rcases h with ⟨hb7, h⟩ | ⟨hb7, h⟩
        · refine TS_know 6 (b := true) hb7 (by kernel_rfl) (by kernel_rfl) ?_
          refine TS_T (by kernel_rfl) rfl ?_
          refine TS_go 7 ?_
          exact TS_inlM (([] : List S_Diagnostic), 10) ⟨[(17, [4])], []⟩ h (by kernel_rfl) (by kernel_rfl) (by kernel_rfl)
        · refine TS_know 6 (b := false) hb7 (by kernel_rfl) (by kernel_rfl) ?_
          refine TS_F (by kernel_rfl) rfl ?_
          refine TS_go 8 ?_
          exact TS_inlM (v5, 0) ⟨[(17, [4])], []⟩ h (by kernel_rfl) (by kernel_rfl) (by kernel_rfl)
    · subst hb4
      refine TS_T (by kernel_rfl) rfl ?_
      refine TS_go 7 ?_
      have ret := Option.some.inj h
      subst ret
      exact TS_ret (by kernel_rfl) (by kernel_rfl) (by kernel_rfl)
  · subst hb2
    refine TS_go 5 ?_
    refine TS_T (by kernel_rfl) rfl ?_
    refine TS_go 7 ?_
    have ret := Option.some.inj h
    subst ret
    exact TS_ret (by kernel_rfl) (by kernel_rfl) (by kernel_rfl)

/-- multihop/multihopworld.sameReport -/
noncomputable def F_world_sameReport (a0 : S_Diagnostic) (a1 : S_Diagnostic) : Option (Bool) :=
  bif (a0.Node == a1.Node) then
    bif (a0.Number == a1.Number) then
      (F_bytes_Equal a0.Data a1.Data).bind fun v3 =>
      some (v3)
    else
      some (false)
  else
    some (false)
set_option maxRecDepth 100000 in
set_option maxHeartbeats 40000000 in
theorem ok_world_sameReport (a0 : S_Diagnostic) (a1 : S_Diagnostic) (r : Bool) (h : F_world_sameReport a0 a1 = some r) : Con Try.prog 57 [.agg (S_Diagnostic.cs a0), .agg (S_Diagnostic.cs a1)] [] (.c (.lit (.bool (r)))) [] := by
  unfold F_world_sameReport at h
  refine con_of [] [] 24 Try.func57 rfl rfl (by kernel_rfl) (fun K => ?_)
  refine TS_go 14 ?_
  replace h := condO h
  rcases h with ⟨hb1, h⟩ | ⟨hb1, h⟩
  · refine TS_know 9 (b := true) hb1 (by kernel_rfl) (by kernel_rfl) ?_
    refine TS_know 10 (b := true) hb1 (by kernel_rfl) (by kernel_rfl) ?_
    refine TS_go 7 ?_
    replace h := condO h
    rcases h with ⟨hb2, h⟩ | ⟨hb2, h⟩
    · refine TS_know 15 (b := true) hb2 (by kernel_rfl) (by kernel_rfl) ?_
      refine TS_know 16 (b := true) hb2 (by kernel_rfl) (by kernel_rfl) ?_
      refine TS_know 17 (b := true) hb2 (by kernel_rfl) (by kernel_rfl) ?_
      refine TS_go 4 ?_
      replace h := bindO h
      obtain ⟨v3, hv3, h⟩ := h
      refine TS_call [] (ok_bytes_Equal a0.Data a1.Data v3 hv3) (by kernel_rfl) (by kernel_rfl) ?_
      refine TS_go 4 ?_
      have ret := Option.some.inj h
      subst ret
      exact TS_ret (by kernel_rfl) (by kernel_rfl) (by kernel_rfl)
    · refine TS_know 15 (b := false) hb2 (by kernel_rfl) (by kernel_rfl) ?_
      refine TS_know 16 (b := false) hb2 (by kernel_rfl) (by kernel_rfl) ?_
      refine TS_know 17 (b := false) hb2 (by kernel_rfl) (by kernel_rfl) ?_
      refine TS_go 9 ?_
      have ret := Option.some.inj h
      subst ret
      exact TS_ret (by kernel_rfl) (by kernel_rfl) (by kernel_rfl)
  · refine TS_know 9 (b := false) hb1 (by kernel_rfl) (by kernel_rfl) ?_
    refine TS_know 10 (b := false) hb1 (by kernel_rfl) (by kernel_rfl) ?_
    refine TS_go 16 ?_
    have ret := Option.some.inj h
    subst ret
    exact TS_ret (by kernel_rfl) (by kernel_rfl) (by kernel_rfl)

/-- slices.EqualFunc[[]multihop/api.Diagnostic[]multihop/api.Diagnosticmultihop/api.Diagnosticmultihop/api.Diagnostic] -/
noncomputable def F_slices_EqualFunc_api_Diagnostic_api_Diagnostic_api_Diagnostic_api_Diagnostic_F572_l1 (a0 : List S_Diagnostic) (a1 : List S_Diagnostic) (s2 : Int) : Option ((Int) ⊕ ((Unit) ⊕ (Bool))) :=
  bif (decide (s2 < (List.length a0 : Int))) then
    (idx a0 s2).bind fun e6 =>
    (idx a1 s2).bind fun e7 =>
    (F_world_sameReport e6 e7).bind fun v8 =>
    bif v8 then
      some (Sum.inl (IntKind.wrap .i64 (s2 + 1)))
    else
      some (Sum.inr (Sum.inr false))
  else
    some (Sum.inr (Sum.inl ()))
noncomputable def F_slices_EqualFunc_api_Diagnostic_api_Diagnostic_api_Diagnostic_api_Diagnostic_F572 (a0 : List S_Diagnostic) (a1 : List S_Diagnostic) : Option (Bool) :=
  bif ((List.length a0 : Int) != (List.length a1 : Int)) then
    some (false)
  else
    (loopO (F_slices_EqualFunc_api_Diagnostic_api_Diagnostic_api_Diagnostic_api_Diagnostic_F572_l1 a0 a1) 0).bind (Sum.elim (fun b3 =>
      some (true)
    ) (fun w10 => some w10))
set_option maxRecDepth 100000 in
set_option maxHeartbeats 40000000 in
theorem ok_slices_EqualFunc_api_Diagnostic_api_Diagnostic_api_Diagnostic_api_Diagnostic_F572 (a0 : List S_Diagnostic) (a1 : List S_Diagnostic) (r : Bool) (h : F_slices_EqualFunc_api_Diagnostic_api_Diagnostic_api_Diagnostic_api_Diagnostic_F572 a0 a1 = some r) : Con Try.prog 56 [.c (eS 3 S_Diagnostic.cs (a0)), .c (eS 3 S_Diagnostic.cs (a1)), .c (.lit (.func (.func 57) #[] #[]))] [] (.c (.lit (.bool (r)))) [] := by
  unfold F_slices_EqualFunc_api_Diagnostic_api_Diagnostic_api_Diagnostic_api_Diagnostic_F572 at h
  refine con_of [] [] 32 Try.func56 rfl rfl (by kernel_rfl) (fun K => ?_)
  refine TS_go 13 ?_
  replace h := condO h
  rcases h with ⟨hb1, h⟩ | ⟨hb1, h⟩
  · refine TS_know 14 (b := true) hb1 (by kernel_rfl) (by kernel_rfl) ?_
    refine TS_T (by kernel_rfl) rfl ?_
    refine TS_go 6 ?_
    have ret := Option.some.inj h
    subst ret
    exact TS_ret (by kernel_rfl) (by kernel_rfl) (by kernel_rfl)
  · refine TS_know 14 (b := false) hb1 (by kernel_rfl) (by kernel_rfl) ?_
    refine TS_F (by kernel_rfl) rfl ?_
    refine TS_go 9 ?_
    refine TS_cut ⟨[(1, []), (2, []), (15, []), (16, []), (17, [])], []⟩ (.mk [.code (codeAt [1, 1, 0, 1, 0] (bodyOf Try.f56)), .blk 0, .code (codeAt [1, 1, 1] (bodyOf Try.f56))] .normal ⟨[(1, .c (.slc 3 0 (List.length a1) (List.map S_Diagnostic.cs a1))), (2, .c (.lit (.func (.func 57) #[] #[]))), (15, .c (.slc 3 0 (List.length a0) (List.map S_Diagnostic.cs a0))), (16, .c (.lit (.int .i64 ((List.length a0 : Int))))), (17, .c (.lit (.int .i64 (0))))], []⟩) (by kernel_rfl) (by kernel_rfl) ?_
    replace h := bindO h
    obtain ⟨y4, hl1, hK1⟩ := h
    refine TS_loopB (F_slices_EqualFunc_api_Diagnostic_api_Diagnostic_api_Diagnostic_api_Diagnostic_F572_l1 a0 a1) ⟨[(1, []), (2, []), (15, []), (16, []), (17, [])], []⟩ (fun (s2 : Int) => [(17, .c (.lit (.int .i64 (s2))))]) (fun (s2 : Int) => []) 0 y4 (.exit 0) (fun (b : Unit) => (Sum.inl b : (Unit) ⊕ (Bool))) ⟨[], []⟩ (fun (b3 : Unit) => []) (fun (b3 : Unit) => []) hl1 (by kernel_rfl) (by kernel_rfl) ?_ ?_
    · intro s2 x h hy1
      unfold F_slices_EqualFunc_api_Diagnostic_api_Diagnostic_api_Diagnostic_api_Diagnostic_F572_l1 at h
      refine TS_go 5 ?_
      replace h := condO h
      rcases h with ⟨hb5, h⟩ | ⟨hb5, h⟩
      · refine TS_know 18 (b := true) hb5 (by kernel_rfl) (by kernel_rfl) ?_
        refine TS_T (by kernel_rfl) rfl ?_
        refine TS_go 6 ?_
        replace h := bindO h
        obtain ⟨e6, he6, h⟩ := h
        refine TS_idx S_Diagnostic.cs he6 (by kernel_rfl) (by kernel_rfl) ?_
        refine TS_go 9 ?_
        replace h := bindO h
        obtain ⟨e7, he7, h⟩ := h
        refine TS_idx S_Diagnostic.cs he7 (by kernel_rfl) (by kernel_rfl) ?_
        refine TS_go 9 ?_
        replace h := bindO h
        obtain ⟨v8, hv8, h⟩ := h
        refine TS_call [] (ok_world_sameReport e6 e7 v8 hv8) (by kernel_rfl) (by kernel_rfl) ?_
        refine TS_go 2 ?_
        replace h := condO h
        rcases h with ⟨hb9, h⟩ | ⟨hb9, h⟩
        · subst hb9
          refine TS_F (by kernel_rfl) rfl ?_
          refine TS_go 6 ?_
          have ret := Option.some.inj h
          subst ret
          exact TS_againB _ ⟨[(1, []), (2, []), (15, []), (16, []), (17, [])], []⟩ rfl (by kernel_rfl) (by kernel_rfl)
        · subst hb9
          refine TS_T (by kernel_rfl) rfl ?_
          refine TS_go 7 ?_
          have ret := Option.some.inj h
          subst ret
          have hy1q := hy1 _ rfl
          subst hy1q
          replace h := (elimR hK1)
          refine TS_retB rfl (by kernel_rfl) ?_
          refine TS_go 2 ?_
          have ret := Option.some.inj h
          subst ret
          exact TS_ret (by kernel_rfl) (by kernel_rfl) (by kernel_rfl)
      · refine TS_know 18 (b := false) hb5 (by kernel_rfl) (by kernel_rfl) ?_
        refine TS_F (by kernel_rfl) rfl ?_
        refine TS_go 2 ?_
        have ret := Option.some.inj h
        subst ret
        exact TS_brkB () ⟨[], []⟩ rfl (by kernel_rfl) (by kernel_rfl) (by kernel_rfl)
    · intro b3 hb
      subst y4
      have h := elimL hK1
      refine TS_go 6 ?_
      have ret := Option.some.inj h
      subst ret
      exact TS_ret (by kernel_rfl) (by kernel_rfl) (by kernel_rfl)

/-- multihop/multihopworld.SameReports -/
noncomputable def F_world_SameReports (a0 : List S_Diagnostic) (a1 : List S_Diagnostic) : Option (Bool) :=
  (F_slices_EqualFunc_api_Diagnostic_api_Diagnostic_api_Diagnostic_api_Diagnostic_F572 a0 a1).bind fun v1 =>
  some (v1)
set_option maxRecDepth 100000 in
set_option maxHeartbeats 40000000 in
theorem ok_world_SameReports (a0 : List S_Diagnostic) (a1 : List S_Diagnostic) (r : Bool) (h : F_world_SameReports a0 a1 = some r) : Con Try.prog 27 [.c (eS 3 S_Diagnostic.cs (a0)), .c (eS 3 S_Diagnostic.cs (a1))] [] (.c (.lit (.bool (r)))) [] := by
  unfold F_world_SameReports at h
  refine con_of [] [] 8 Try.func27 rfl rfl (by kernel_rfl) (fun K => ?_)
  refine TS_go 8 ?_
  replace h := bindO h
  obtain ⟨v1, hv1, h⟩ := h
  refine TS_call [] (ok_slices_EqualFunc_api_Diagnostic_api_Diagnostic_api_Diagnostic_api_Diagnostic_F572 a0 a1 v1 hv1) (by kernel_rfl) (by kernel_rfl) ?_
  refine TS_go 3 ?_
  have ret := Option.some.inj h
  subst ret
  exact TS_ret (by kernel_rfl) (by kernel_rfl) (by kernel_rfl)

/-- multihop/octets.Uint -/
noncomputable def F_octets_Uint_l1 (l5 : List Int) (s6 : Int × Int) : Option ((Int × Int) ⊕ (Int)) :=
  bif (decide (s6.2 < (List.length l5 : Int))) then
    (idx l5 s6.2).bind fun e10 =>
    some (Sum.inl (ior .u64 (ishl .u64 s6.1 8) (IntKind.wrap .u64 e10), IntKind.wrap .i64 (s6.2 + 1)))
  else
    some (Sum.inr s6.1)
noncomputable def F_octets_Uint (a0 : List Int) (a1 : Int) (a2 : Int) : Option (Int × Bool) :=
  bif (decide (a2 < 1)) then
    some ((0, false))
  else
    bif (decide (a2 > 8)) then
      some ((0, false))
    else
      bif (decide (a1 < 0)) then
        some ((0, false))
      else
        bif (decide (a1 > (IntKind.wrap .i64 ((List.length a0 : Int) - a2)))) then
          some ((0, false))
        else
          (subO a0 a1 (IntKind.wrap .i64 (a1 + a2))).bind fun l5 =>
          (loopO (F_octets_Uint_l1 l5) (0, 0)).bind fun b7 =>
          some ((b7, true))
set_option maxRecDepth 100000 in
set_option maxHeartbeats 40000000 in
theorem ok_octets_Uint (a0 : List Int) (a1 : Int) (a2 : Int) (r : Int × Bool) (h : F_octets_Uint a0 a1 a2 = some r) : Con Try.prog 64 [.c (eS 1 (ecI .u8) (a0)), .c (.lit (.int .i64 (a1))), .c (.lit (.int .i64 (a2)))] [] (.tup [(false, [.lit (.int .u64 (r.1))]), (false, [.lit (.bool (r.2))])]) [] := by
  unfold F_octets_Uint at h
  refine con_of [] [] 47 Try.func64 rfl rfl (by kernel_rfl) (fun K => ?_)
  refine TS_go 11 ?_
  replace h := condO h
  rcases h with ⟨hb1, h⟩ | ⟨hb1, h⟩
  · refine TS_know 12 (b := true) hb1 (by kernel_rfl) (by kernel_rfl) ?_
    refine TS_know 13 (b := true) hb1 (by kernel_rfl) (by kernel_rfl) ?_
    refine TS_go 16 ?_
    refine TS_T (by kernel_rfl) rfl ?_
    refine TS_go 7 ?_
    have ret := Option.some.inj h
    subst ret
    exact TS_ret (by kernel_rfl) (by kernel_rfl) (by kernel_rfl)
  · refine TS_know 12 (b := false) hb1 (by kernel_rfl) (by kernel_rfl) ?_
    refine TS_know 13 (b := false) hb1 (by kernel_rfl) (by kernel_rfl) ?_
    refine TS_go 4 ?_
    replace h := condO h
    rcases h with ⟨hb2, h⟩ | ⟨hb2, h⟩
    · refine TS_know 15 (b := true) hb2 (by kernel_rfl) (by kernel_rfl) ?_
      refine TS_know 16 (b := true) hb2 (by kernel_rfl) (by kernel_rfl) ?_
      refine TS_know 17 (b := true) hb2 (by kernel_rfl) (by kernel_rfl) ?_
      refine TS_go 12 ?_
      refine TS_T (by kernel_rfl) rfl ?_
      refine TS_go 7 ?_
      have ret := Option.some.inj h
      subst ret
      exact TS_ret (by kernel_rfl) (by kernel_rfl) (by kernel_rfl)
    · refine TS_know 15 (b := false) hb2 (by kernel_rfl) (by kernel_rfl) ?_
      refine TS_know 16 (b := false) hb2 (by kernel_rfl) (by kernel_rfl) ?_
      refine TS_know 17 (b := false) hb2 (by kernel_rfl) (by kernel_rfl) ?_
      refine TS_go 4 ?_
      replace h := condO h
      rcases h with ⟨hb3, h⟩ | ⟨hb3, h⟩
      · refine TS_know 19 (b := true) hb3 (by kernel_rfl) (by kernel_rfl) ?_
        refine TS_know 20 (b := true) hb3 (by kernel_rfl) (by kernel_rfl) ?_
        refine TS_know 21 (b := true) hb3 (by kernel_rfl) (by kernel_rfl) ?_
        refine TS_go 8 ?_
        refine TS_T (by kernel_rfl) rfl ?_
        refine TS_go 7 ?_
        have ret := Option.some.inj h
        subst ret
        exact TS_ret (by kernel_rfl) (by kernel_rfl) (by kernel_rfl)
      · refine TS_know 19 (b := false) hb3 (by kernel_rfl) (by kernel_rfl) ?_
        refine TS_know 20 (b := false) hb3 (by kernel_rfl) (by kernel_rfl) ?_
        refine TS_know 21 (b := false) hb3 (by kernel_rfl) (by kernel_rfl) ?_
        refine TS_go 8 ?_
        replace h := condO h
        rcases h with ⟨hb4, h⟩ | ⟨hb4, h⟩
        · refine TS_know 27 (b := true) hb4 (by kernel_rfl) (by kernel_rfl) ?_
          refine TS_know 28 (b := true) hb4 (by kernel_rfl) (by kernel_rfl) ?_
          refine TS_T (by kernel_rfl) rfl ?_
          refine TS_go 7 ?_
          have ret := Option.some.inj h
          subst ret
          exact TS_ret (by kernel_rfl) (by kernel_rfl) (by kernel_rfl)
        · refine TS_know 27 (b := false) hb4 (by kernel_rfl) (by kernel_rfl) ?_
          refine TS_know 28 (b := false) hb4 (by kernel_rfl) (by kernel_rfl) ?_
          refine TS_F (by kernel_rfl) rfl ?_
          refine TS_go 13 ?_
          replace h := bindO h
          obtain ⟨l5, hl5, h⟩ := h
          refine TS_sub (ecI .u8) 1 hl5 (by kernel_rfl) (by kernel_rfl) ?_
          refine TS_go 4 ?_
          refine TS_cut ⟨[(8, []), (34, []), (35, []), (36, [])], []⟩ (.mk [.code (codeAt [1, 1, 1, 0, 1, 0] (bodyOf Try.f64)), .blk 0, .code (codeAt [1, 1, 1, 1] (bodyOf Try.f64))] .normal ⟨[(8, .c (.lit (.int .u64 (0)))), (34, .c (.slc 1 0 (List.length l5) (List.map (ecI .u8) l5))), (35, .c (.lit (.int .i64 ((List.length l5 : Int))))), (36, .c (.lit (.int .i64 (0))))], []⟩) (by kernel_rfl) (by kernel_rfl) ?_
          replace h := bindO h
          obtain ⟨y8, hl1, hK1⟩ := h
          refine TS_loopB (F_octets_Uint_l1 l5) ⟨[(8, []), (34, []), (35, []), (36, [])], []⟩ (fun (s6 : Int × Int) => [(8, .c (.lit (.int .u64 (s6.1)))), (36, .c (.lit (.int .i64 (s6.2))))]) (fun (s6 : Int × Int) => []) (0, 0) y8 (.exit 0) (fun (b : Int) => b) ⟨[(8, [])], []⟩ (fun (b7 : Int) => [(8, .c (.lit (.int .u64 (b7))))]) (fun (b7 : Int) => []) hl1 (by kernel_rfl) (by kernel_rfl) ?_ ?_
          · intro s6 x h hy1
            unfold F_octets_Uint_l1 at h
            refine TS_go 5 ?_
            replace h := condO h
            rcases h with ⟨hb9, h⟩ | ⟨hb9, h⟩
            · refine TS_know 37 (b := true) hb9 (by kernel_rfl) (by kernel_rfl) ?_
              refine TS_T (by kernel_rfl) rfl ?_
              refine TS_go 5 ?_
              replace h := bindO h
              obtain ⟨_e10, he10, h⟩ := h
              refine TS_idx (ecI .u8) he10 (by kernel_rfl) (by kernel_rfl) ?_
              refine TS_go 16 ?_
              have ret := Option.some.inj h
              subst ret
              exact TS_againB _ ⟨[(8, []), (34, []), (35, []), (36, [])], []⟩ rfl (by kernel_rfl) (by kernel_rfl)
            · refine TS_know 37 (b := false) hb9 (by kernel_rfl) (by kernel_rfl) ?_
              refine TS_F (by kernel_rfl) rfl ?_
              refine TS_go 2 ?_
              have ret := Option.some.inj h
              subst ret
              exact TS_brkB s6.1 ⟨[(8, [])], []⟩ rfl (by kernel_rfl) (by kernel_rfl) (by kernel_rfl)
          · intro b7 hb
            subst y8
            have h := hK1
            refine TS_go 8 ?_
            have ret := Option.some.inj h
            subst ret
            exact TS_ret (by kernel_rfl) (by kernel_rfl) (by kernel_rfl)
end
end Go.Proofs.Ytcjoflgnifafiaa
