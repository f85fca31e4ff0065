/-
  SHADOWS: made zeros appended, parts with bounds, rows cut off, clear, variables never written, windows, structs with rows handed in.
-/
import Derived.Test.YtohfnlkjdjmipaaVD
import Derived.Lib.AppendZerosOnto
namespace Go.Proofs.Ytohfnlkjdjmipaa
/-! ## SHADOWS: append of a made slice of zeros. -/
section
open Go.RowKit

/-! ### zeros -/
theorem zeroCells_row {α : Type} {rd : Rd} {z : Value} {sz : Nat} (m : Nat) (f : α → List SC) (z0 : α) (ks : List Nat) (hzs : z.cells.size = sz) (hf : castL ks (z.cells.toList.map SC.lit) = f z0) : RowIs rd sz (Builtin.zeroCells z.cells m).toList ((List.replicate m z0).map f) := by
  have hzl : (f z0).length = sz := by rw [← hf, castL_length, List.length_map, Array.length_toList, hzs]
  refine ⟨fun x hx => ?_, fun i x j y hx hy => ?_⟩
  · obtain ⟨x0, hx0, rfl⟩ := List.mem_map.1 hx
    rw [(List.mem_replicate.1 hx0).2]; exact hzl
  · rw [List.getElem?_map] at hx
    obtain ⟨x0, hx0, rfl⟩ := Option.map_eq_some_iff.1 hx
    have hi : i < m := by have := (List.getElem?_eq_some_iff.1 hx0).1; simpa using this
    have hx1 : x0 = z0 := by rw [List.getElem?_replicate, if_pos hi] at hx0; cases hx0; rfl
    subst hx1
    have hj : j < sz := by have := (List.getElem?_eq_some_iff.1 hy).1; omega
    rw [← hf] at hy
    obtain ⟨k, y0, hy0, rfl⟩ := castL_get ks _ j y hy
    rw [List.getElem?_map] at hy0
    obtain ⟨u, hu', rfl⟩ := Option.map_eq_some_iff.1 hy0
    refine ⟨u, ?_, cast1_imm k (.lit u)⟩
    have hij : i * sz + j < m * sz := by
      have : (i + 1) * sz ≤ m * sz := Nat.mul_le_mul_right _ hi
      rw [Nat.add_mul, Nat.one_mul] at this
      omega
    simp only [Builtin.zeroCells, Array.getElem?_toList, Array.getElem?_map]
    rw [hzs, Array.getElem?_eq_getElem (by simp; omega)]
    simp only [Option.map_some, Array.getElem_range, Option.some.injEq]
    rw [Nat.mul_add_mod_of_lt' hj]
    rw [Array.getElem?_toList] at hu'
    rw [getElem!_def, hu']
theorem zeroCells_one {z : Value} (m : Nat) (hz : ∀ u ∈ z.cells.toList, u.oneCell' = true) : ∀ u ∈ (Builtin.zeroCells z.cells m).toList, u.oneCell' = true := by
  intro u hu
  simp only [Builtin.zeroCells, Array.mem_toList_iff, Array.mem_map, Array.mem_range] at hu
  obtain ⟨i, hi, rfl⟩ := hu
  have hp : 0 < z.cells.size := by
    rcases Nat.eq_zero_or_pos z.cells.size with h | h
    · rw [h] at hi; omega
    · exact h
  have hm := Nat.mod_lt i hp
  rw [getElem!_pos z.cells _ hm]
  exact hz _ (by simp)
theorem run_append_zerosM {P : Program} {w : World} (t tn ty e : TypeId) (i : TypeInfo) (z : Value) (kn kq : IntKind) (sz bytes : Nat) (ht : P.underlying t = some (.slice e)) (htn : P.underlying tn = some (.int kn)) (hi : P.info? e = some i) (hz : i.zero = some z) (hsize : i.size = sz) (hby : i.bytes = bytes) (hzs : z.cells.size = sz) (hsz : 0 < sz)
    (V : Value) (n : Nat) (us : List Value) (hown : w.ownsRowM e sz V n us) (m : Nat) (h1 : ∀ u ∈ z.cells.toList, u.oneCell' = true) (hm : 0 < m)
    (h63 : n + m ≤ maxLen) (hbytes : (n + m) * bytes ≤ 140737488355328) :
    ∃ V' w', (Builtin.append_ #[t, tn] ty #[V, .int kq m]).run P w = .ok V' w' ∧ w'.ownsRowM e sz V' (n + m) (us ++ (Builtin.zeroCells z.cells m).toList) ∧ Keep w (fun b o => V.ownBlock = some b ∧ n * sz ≤ o) w' ∧ ∀ k, V'.ownBlock = some k → V.ownBlock = some k ∨ w.heap.size ≤ k := by
  subst hsize
  subst hby
  have h1v := zeroCells_one m h1
  have hl : (Builtin.zeroCells z.cells m).toList.length = m * i.size := by simp [Builtin.zeroCells, hzs]
  have hav : (Builtin.zeroCells z.cells m) = (Builtin.zeroCells z.cells m).toList.toArray := by simp
  generalize hvals : (Builtin.zeroCells z.cells m).toList = vals at *
  have hsmall : n + m ≤ 9223372036854775807 := by simp only [maxLen] at h63; omega
  have hmb : m * i.bytes ≤ 140737488355328 := Nat.le_trans (Nat.mul_le_mul_right _ (by omega)) hbytes
  have hlen : (us ++ vals).length = (n + m) * i.size := by rw [List.length_append, hown.1, hl, Nat.add_mul]
  have grown : ∀ (old : Nat), old < n + m →
      (w.drew.alloc (.cells (us.toArray ++ vals.toArray ++ Builtin.zeroCells z.cells (grownCap w (n + m) old e - (n + m))) e)).ownsRowM e i.size
        (.slice (some ⟨w.heap.size, 0, none⟩) (n + m) (grownCap w (n + m) old e)) (n + m) (us ++ vals) ∧
      Keep w (fun b o => V.ownBlock = some b ∧ n * i.size ≤ o) (w.drew.alloc (.cells (us.toArray ++ vals.toArray ++ Builtin.zeroCells z.cells (grownCap w (n + m) old e - (n + m))) e)) := by
    intro old ho
    have hge := grownCap_ge w (n + m) old e
    have hcm : grownCap w (n + m) old e ≤ maxLen := grownCap_le_maxLen w (n + m) old e h63
    refine ⟨⟨hlen, .inr ⟨w.heap.size, _, _, (0, 0), rfl, heap_alloc_new w.drew _, fun j _ q => Nat.not_lt_zero _ q.2, hge, hcm, ?_, ?_⟩⟩, (Keep.of_ext ((Ext.drew w).trans (Ext.alloc _ _))).weak (fun _ _ x => x.elim)⟩
    · simp only [Array.size_append, List.size_toArray, size_zeroCells, hzs, hown.1, hl, ← Nat.add_mul]
      congr 1
      omega
    · simp only [Array.toList_append, List.append_assoc]
      rw [← List.append_assoc, ← hlen]
      exact List.take_left
  have hw : IntKind.i64.wrap (m : Int) = m := by rw [IntKind.wrap_i64]; omega
  rcases hown.2 with ⟨rfl, rfl⟩ | ⟨gb, cap, cur, fz, rfl, hgg, huf, hnc, hcm, hcs, htake⟩
  · have hx : us = [] := List.eq_nil_of_length_eq_zero (by simpa using hown.1)
    subst hx
    have hr := Go.Lib.run_append_nil_zeros (P := P) w t tn ty e i z kq kn ht htn hi hz m hm hsz (by omega) (by omega)
    have hgr := grown 0 (by omega)
    rw [hav] at hr
    simp only [Nat.zero_add, List.nil_append, Array.empty_append] at hgr ⊢
    exact ⟨_, _, hr, hgr.1, hgr.2, fun k hk => .inr (by simp only [Value.ownBlock, Option.some.injEq] at hk; omega)⟩
  · by_cases hroom : n + m ≤ cap
    · have hfit : n * i.size + vals.length ≤ cur.size := by rw [hl, hcs, ← Nat.add_mul]; exact Nat.mul_le_mul_right _ hroom
      have hst := run_storeCells_atM P gb (n * i.size) e fz vals 0 cur w hgg huf (by simpa using hfit) h1v
      simp only [Nat.add_zero] at hst
      have hr : (Builtin.append_ #[t, tn] ty #[.slice (some ⟨gb, 0, none⟩) n cap, .int kq m]).run P w = .ok (.slice (some ⟨gb, 0, none⟩) (n + m) cap) (w.setRow gb (cur.toList.take (n * i.size) ++ vals ++ cur.toList.drop (n * i.size + vals.length)).toArray) := by
        have hneg : ¬ ((m : Int) < 0) := by omega
        have h48i : ¬ (281474976710656 < (m : Int) * (i.bytes : Int)) := by rw [← Int.natCast_mul]; omega
        have hm0 : m ≠ 0 := by omega
        have hns : ¬ (m * i.size = 0) := Nat.mul_ne_zero hm0 (by omega)
        simp [Builtin.append_, run_underlying ht, run_underlying htn, sizeOf, typeInfo, zeroValue, hi, hz, asInt, asIntOf, hw, hneg, h48i, hns, hroom, hav, Addr.add_lit, hst]
      have hsz2 : (cur.toList.take (n * i.size) ++ vals ++ cur.toList.drop (n * i.size + vals.length)).toArray.size = cur.size := by
        simp only [List.size_toArray, List.length_append, List.length_take, List.length_drop, Array.length_toList]
        omega
      refine ⟨_, _, hr, ⟨hlen, .inr ⟨gb, cap, _, fz, rfl, setRow_heap w gb cur _ e _ hgg, by rw [hsz2]; exact huf, hroom, hcm, ?_, ?_⟩⟩, ⟨rfl, rfl, rfl, by simp, fun b hb => ?_⟩, fun k hk => .inl (by simpa [Value.ownBlock] using hk)⟩
      · rw [hsz2]; exact hcs
      · rw [htake, ← hlen]
        exact List.take_left
      · by_cases hbb : b = gb
        · subst hbb
          refine .inr ⟨cur, _, e, fz, hgg, setRow_heap w b cur _ e _ hgg, ?_, fun j hj => ?_⟩
          · simp only [List.size_toArray, List.length_append, List.length_take, List.length_drop, Array.length_toList]
            omega
          · have hj' : j < n * i.size := by
              rcases Nat.lt_or_ge j (n * i.size) with h | h
              · exact h
              · exact absurd ⟨rfl, h⟩ hj
            rw [List.getElem?_toArray, List.append_assoc, List.getElem?_append_left (by simp only [List.length_take, Array.length_toList]; omega), List.getElem?_take, if_pos hj']
            simp
        · exact .inl (setRow_other w gb b _ hbb)
    · have holds : ∀ j u, us[j]? = some u → w.drew.cell? ((⟨gb, 0, none⟩ : Addr).add j) = some u := hown.cells (g := gb) rfl
      have hr := Go.Lib.run_append_grow_zeros (P := P) w t tn ty e i z kq kn ht htn hi hz (some ⟨gb, 0, none⟩) n cap us (run_firstCells_some (P := P) w.drew i.size n ⟨gb, 0, none⟩ n cap us hown.1 holds) m hm hsz (by omega) (by omega) (by omega) (growslice_fits (by omega) hbytes)
      have hgr := grown cap (by omega)
      rw [hav] at hr
      exact ⟨_, _, hr, hgr.1, hgr.2, fun k hk => .inr (by simp only [Value.ownBlock, Option.some.injEq] at hk; omega)⟩
/-! ### a row that has grown in its room -/
section
variable {K : Ctx} {g : Env} {w w' : World} {n : Nat} {a : Act} {s : St} {α : Type}
theorem RG.appended (r : RG K g n a w s) {e sz d : Nat} (f : α → List SC) {l1 l2 : List α} {V V' : Value} {us vals : List Value} (hl : look s.hp d = some (.spare e sz l1.length)) (hux : V = (g.tk d).2) (rx : IRel (rdOf K g s.hp w) V (.slc sz 0 l1.length (l1.map f))) (hs0 : 0 < sz)
    (hown : w.ownsRowM e sz (g.tk d).2 l1.length us) (hrow : RowIs (rdOf K g s.hp w) sz vals (l2.map f)) (hpos : 0 < l2.length)
    (q2 : w'.ownsRowM e sz V' (l1.length + l2.length) (us ++ vals)) (q3 : Keep w (fun b o => (g.tk d).2.ownBlock = some b ∧ l1.length * sz ≤ o) w') (q4 : ∀ k, V'.ownBlock = some k → (g.tk d).2.ownBlock = some k ∨ w.heap.size ≤ k) :
    ∃ g', RG K g' n a w' (s.setR d (.spare e sz (l1 ++ l2).length)) ∧ VRel (rdOf K g' (s.setR d (.spare e sz (l1 ++ l2).length)).hp w') g' V' (.c (.slc sz (d + 2) (l1 ++ l2).length ((l1 ++ l2).map f))) := by
  obtain ⟨aV, cV, hV, hVc, hVm, hvl, hblk⟩ := tk_sliceM hown
  rw [hux] at rx
  obtain ⟨aV', cV', hV', hVc', hVm', hvl', hblk'⟩ := tk_sliceM q2
  let g' : Env := { pos := g.pos, tk := fun e => if e = d then ((g.tk d).1, V') else g.tk e }
  have hgd' : g'.tk d = ((g.tk d).1, V') := by simp [g']
  have hgr : Grew g g' d := ⟨fun _ => rfl, fun e => by by_cases q : e = d <;> simp [g', q], fun e q => by simp [g', q], .inr (by rw [hgd', hvl, hvl']; omega)⟩
  have hlen : (l1 ++ l2).length = l1.length + l2.length := List.length_append
  obtain ⟨r1, hle⟩ := r.grow (g' := g') (w' := w') (r := .spare e sz (l1 ++ l2).length) hl hgr q3 (fun b o' hf => by
      simp only [Foot, hgd'] at hf
      rcases q4 b hf.1 with h5 | h5
      · refine .inl ⟨h5, Nat.le_trans (Nat.mul_le_mul_right _ ?_) hf.2⟩
        omega
      · exact .inr h5) (fun _ q => by cases q) rfl (fun _ => ⟨us ++ vals, by rw [hgd', hlen]; exact q2⟩)
  refine ⟨g', r1, ⟨?_, ?_⟩⟩
  · -- the elements
    have hrx : RowIs (rdOf K g s.hp w) sz us (l1.map f) := by
      rcases hblk with h0 | ⟨bb, hbb, hbk⟩
      · have : l1 = [] := List.eq_nil_of_length_eq_zero h0
        subst this
        have : us = [] := List.eq_nil_of_length_eq_zero (by simpa using hown.1)
        subst this
        exact ⟨by simp, by simp⟩
      · obtain ⟨_, _, valsx, hs | ⟨ad', c', h3, hnil', _⟩⟩ := src_row (rdOf_le g s.hp r.hg.keep) rx
        · obtain ⟨h3, _, _, hrow', hlv', hw'⟩ := hs
          rw [List.length_map] at hlv' hw' h3
          rcases hw' with h0 | ⟨ad', hh, hcells'⟩
          · have : l1 = [] := List.eq_nil_of_length_eq_zero h0
            subst this
            have : us = [] := List.eq_nil_of_length_eq_zero (by simpa using hown.1)
            subst this
            exact ⟨by simp, by simp⟩
          · rw [hV, hbb] at h3
            cases h3
            cases hh
            have : us = valsx := by
              apply List.ext_getElem?
              intro j
              rcases Nat.lt_or_ge j (l1.length * sz) with hj | hj
              · have hju : j < us.length := by rw [hown.1]; exact hj
                have hjv : j < valsx.length := by omega
                have q1 := hown.cells hbk j (us[j]'hju) (List.getElem?_eq_getElem hju)
                have q2 := hcells' j (valsx[j]'hjv) (List.getElem?_eq_getElem hjv)
                rw [q1] at q2
                rw [List.getElem?_eq_getElem hju, List.getElem?_eq_getElem hjv]
                exact q2
              · rw [List.getElem?_eq_none (by rw [hown.1]; exact hj), List.getElem?_eq_none (by omega)]
            rw [this]
            exact hrow'
        · have : l1 = [] := by simpa using hnil'
          subst this
          have : us = [] := List.eq_nil_of_length_eq_zero (by simpa using hown.1)
          subst this
          exact ⟨by simp, by simp⟩
    have hr2 : RowIs (rdOf K g s.hp w) sz (us ++ vals) ((l1 ++ l2).map f) := by
      rw [List.map_append]
      exact hrx.append hrow (by rw [List.length_map]; exact hown.1)
    rcases hblk' with h0 | ⟨bb, hbb, hbk⟩
    · omega
    rw [hV', hbb, ← hlen]
    refine row_is (b := bb) (vals := us ++ vals) (hr2.mono hle) (by simp) (by rw [hlen]; exact hVc') hVm' (fun k v hv hk => ?_)
    -- each cell is read
    have hcell := q2.cells hbk k v hv
    rw [addr_add, Nat.zero_add] at hcell
    rcases q4 bb hbk with h5 | h5
    · -- in place
      rcases Nat.lt_or_ge k (l1.length * sz) with hk1 | hk1
      · rcases hblk with h0 | ⟨b2, hb2, hbk2⟩
        · rw [h0] at hk1; omega
        · rw [h5] at hbk2
          cases hbk2
          rw [hV, hb2] at rx
          have hv2 : us[k]? = some v := by rwa [List.getElem?_append_left (by rw [hown.1]; exact hk1)] at hv
          refine hle _ _ _ ?_
          generalize hsc : SC.slc sz 0 l1.length (l1.map f) = yy at rx
          generalize hvv : Value.slice (some ⟨bb, 0, none⟩) l1.length cV = vv at rx
          cases rx with
          | lit v => cases hsc
          | nil s' a c hm => injection hsc with _ _ h9 _; rw [h9] at hk1; omega
          | ref b o cs f hr hu => cases hsc
          | slc b o n c s' xs' ff hn hc hm hs hr hu =>
            cases hsc
            cases hvv
            have hs0' : 0 < sz := hs0
            have hi2 : k / sz < (l1.map f).length := by rw [List.length_map]; exact Nat.div_lt_of_lt_mul (by rw [Nat.mul_comm]; exact hk1)
            have hx2 := List.getElem?_eq_getElem hi2
            have hlx := hs _ (List.getElem_mem hi2)
            have hj2 : k % sz < ((l1.map f)[k / sz]).length := by rw [hlx]; exact Nat.mod_lt _ hs0'
            have h6 := hr _ _ _ _ hx2 (List.getElem?_eq_getElem hj2)
            rw [Nat.zero_add, show k / sz * sz + k % sz = k by have := Nat.div_add_mod k sz; rw [Nat.mul_comm] at this; omega] at h6
            have h7 := rdOf_le g s.hp r.hg.keep _ _ _ h6
            have h8 := hown.cells h5 k v hv2
            rw [addr_add, Nat.zero_add, h7] at h8
            rw [h6]; exact h8
      · unfold rdOf
        have hnew : ¬ InFoot g' (s.setR d (.spare e sz (l1 ++ l2).length)).hp bb k := by
          rintro ⟨d2, x2, k1, k2⟩
          simp only [St.setR, look_setL] at k1
          split at k1
          · rename_i hdd
            cases k1
            simp only [Foot, ← hdd, hgd'] at k2
            have := (List.getElem?_eq_some_iff.1 hv).1
            rw [q2.1] at this
            omega
          · rename_i hdd
            rw [foot_env ⟨hgr.pos d2, hgr.tk d2 (Ne.symm hdd)⟩] at k2
            exact r.hg.dis d2 d x2 _ bb k (Ne.symm hdd) k1 hl k2 ⟨h5, hk1⟩
        rw [if_neg hnew, if_neg]
        · exact hcell
        · exact fun q => (r.hg.new d _ hl rfl bb k ⟨h5, hk1⟩).elim (fun q2 => Nat.not_lt.2 q2 q.1) q.2
    · unfold rdOf
      have hnew : ¬ InFoot g' (s.setR d (.spare e sz (l1 ++ l2).length)).hp bb k := by
        rintro ⟨d2, x2, k1, k2⟩
        simp only [St.setR, look_setL] at k1
        split at k1
        · rename_i hdd
          cases k1
          simp only [Foot, ← hdd, hgd'] at k2
          have := (List.getElem?_eq_some_iff.1 hv).1
          rw [q2.1] at this
          omega
        · rename_i hdd
          rw [foot_env ⟨hgr.pos d2, hgr.tk d2 (Ne.symm hdd)⟩] at k2
          have := (r.hg.holds d2 x2 k1).lt k2
          omega
      rw [if_neg hnew, if_neg (by have := r.hg.keep.size; omega)]
      exact hcell
  · show _ ≤ vlen (g'.tk d).2 ∧ (_ = vlen (g'.tk d).2 → V' = (g'.tk d).2)
    rw [hgd']
    exact ⟨by rw [hvl', hlen]; exact Nat.le_refl _, fun _ => rfl⟩
end

/-! ### append of a made slice of zeros -/
def appZO {α : Type} (by_ : Nat) (l : List α) (z : α) (m : Int) : Option (List α) := if 0 ≤ m then appO by_ l (List.replicate m.toNat z) else none
def appZArgs (P : Program) (s : St) (o : Oper) : Option (Nat × Nat × Nat × Nat × Nat × Nat × List (List SC) × List SC × Int) := match o.op with
  | .call { callee := .builtin .append, args := xs, argTypes := ts } => match xs.toList, ts.toList with
    | [x, y], [t, t'] => match P.underlying t, P.underlying t' with
      | some (.slice e), some (.int _) => match P.info? e with
        | some ie => match ie.zero, opd s x, opd s y with
          | some z, some (.c (.slc sz (d + 2) N a)), some (.c (.lit (.int _ m))) => match look s.hp d with
            | some (.spare e' sz' N') => if z.cells.size = ie.size ∧ 0 < ie.size ∧ e' = e ∧ sz = ie.size ∧ sz' = ie.size ∧ z.cells.all Value.oneCell' = true then some (d, e, ie.size, ie.bytes, N, N', a, z.cells.toList.map SC.lit, m) else none
            | _ => none
          | _, _, _ => none
        | none => none
      | _, _ => none
    | _, _ => none
  | _ => none
section
variable {P : Program} {K : Ctx} {n : Nat} {ops : Array Oper} {o : Oper} {s need : St} {α : Type} {C : Cfg} {D : Dr} {Q : Exit → St → Prop}
theorem S_appZ {d e sz by_ N : Nat} (f : α → List SC) (z0 : α) (ks : List Nat) {cs : List SC} {m : Int} {l1 l' : List α} (he : appZO by_ l1 z0 m = some l') (hf : castL ks cs = f z0) (h : appZArgs P s o = some (d, e, sz, by_, N, N, l1.map f, cs, m)) (hgd : guardOf ops o s = some true) (hd : dstOk n o = true) :
    Stp P K n ops o s ((s.setR d (.spare e sz l'.length)).put o.dst (.c (.slc sz (d + 2) l'.length (l'.map f)))) := by
  unfold appZArgs at h
  split at h
  rotate_left
  · cases h
  rename_i xs ts ho
  split at h
  rotate_left
  · cases h
  rename_i x y t t' hxs hts
  have hxs' : xs = #[x, y] := by rw [← Array.toArray_toList (xs := xs), hxs]
  have hts' : ts = #[t, t'] := by rw [← Array.toArray_toList (xs := ts), hts]
  subst hxs'
  subst hts'
  split at h
  rotate_left
  · cases h
  rename_i e1 kn hu hu'
  split at h
  rotate_left
  · cases h
  rename_i ie hi
  split at h
  rotate_left
  · cases h
  rename_i z sz1 d1 N1 a1 kq m1 hz hx hy
  split at h
  rotate_left
  · cases h
  rename_i e2 sz2 N2 hl
  split at h
  rotate_left
  · cases h
  rename_i hq
  obtain ⟨hzc, hs0, rfl, rfl, rfl, hone⟩ := hq
  cases h
  simp only [appZO] at he
  split at he
  rotate_left
  · cases he
  rename_i hm0
  obtain ⟨M, rfl⟩ : ∃ M : Nat, m = (M : Int) := ⟨m.toNat, by omega⟩
  rw [Int.toNat_natCast] at he
  simp only [appO] at he
  split at he
  rotate_left
  · cases he
  rename_i hb
  cases he
  rw [List.length_replicate] at hb
  refine Stp_mk hgd fun g a w r K' Q hK => ?_
  have hview := r.view.o o
  have hvx := hview.op x _ (by simp [ho, Op.operands, Call.operands]) hx
  have hvy := rel_lit (hview.op y _ (by simp [ho, Op.operands, Call.operands]) hy)
  obtain ⟨rx, htag⟩ := hvx
  have hN := irel_n rx
  rw [List.length_map] at hN
  subst hN
  obtain ⟨us, hown⟩ := r.hg.holds d _ hl
  obtain ⟨aV, cV, hV, hVc, hVm, hvl, hblk⟩ := tk_sliceM hown
  have hux : a.eval x = (g.tk d).2 := htag.2 hvl.symm
  unfold Oper.wp
  simp only [execOp, ho, resolve, invoke, builtin, Sem.run_bind, Sem.run_pure, Result.andThen_ok, List.map_toArray, List.map_cons, List.map_nil]
  rw [hvy]
  by_cases hM : M = 0
  · subst hM
    simp only [List.replicate_zero, List.append_nil] at hK ⊢
    have hr : (Builtin.append_ #[t, t'] o.type #[a.eval x, .int kq ((0 : Nat) : Int)]).run P w = .ok (a.eval x) w := by
      rw [hux, hV]
      have hw : IntKind.i64.wrap ((0 : Nat) : Int) = 0 := rfl
      have hw0 : IntKind.i64.wrap 0 = 0 := rfl
      cases aV <;> simp [Builtin.append_, run_underlying hu, run_underlying hu', sizeOf, typeInfo, hi, asInt, asIntOf, hw0, hVc, storeCells]
    rw [hr]
    simp only [Result.andThen_ok, Oper.upon]
    have hst := r.upd (r := .spare e ie.size l1.length) hl (fun _ _ x => x) (Keep.refl _ _) (fun _ q => by cases q) (fun q => q) (fun _ => ⟨us, hown⟩)
    refine hK _ _ ⟨g, RG.put hst.1 o.dst (dstOk_spec hd) ⟨rx.mono hst.2, ?_⟩⟩
    exact ⟨by omega, fun _ => hux⟩
  have hpos : 0 < M := Nat.pos_of_ne_zero hM
  obtain ⟨V', w', q1, q2, q3, q4⟩ := run_append_zerosM (P := P) t t' o.type e ie z kn kq ie.size ie.bytes hu hu' hi hz rfl rfl hzc hs0 _ _ us hown M (fun u hu => Array.all_eq_true'.1 hone u (by simpa using hu)) hpos (by unfold maxLen; omega) hb.1
  rw [hux, q1]
  simp only [Result.andThen_ok, Oper.upon]
  obtain ⟨g', r1, hv⟩ := r.appended (l2 := List.replicate M z0) f hl hux rx hs0 hown (zeroCells_row M f z0 ks hzc hf) (by rw [List.length_replicate]; exact hpos) (by rw [List.length_replicate]; exact q2) q3 q4
  exact hK _ _ ⟨g', r1.put o.dst (dstOk_spec hd) hv⟩
theorem Sub.appZ {s s' : St} (h : Sub s s') {q : Nat × Nat × Nat × Nat × Nat × Nat × List (List SC) × List SC × Int} (k : appZArgs P s o = some q) : appZArgs P s' o = some q := by
  unfold appZArgs at k ⊢
  split at k
  rotate_left
  · cases k
  split at k
  rotate_left
  · cases k
  rename_i x y t t' hxs hts
  try rw [hxs, hts]
  try simp only
  split at k
  rotate_left
  · cases k
  rename_i e1 kn hu hu'
  try rw [hu, hu']
  try simp only
  split at k
  rotate_left
  · cases k
  rename_i ie hi
  try rw [hi]
  try simp only
  split at k
  rotate_left
  · cases k
  rename_i z sz1 d1 N1 a1 kq m1 hz hx hy
  rw [hz, h.opd hx, h.opd hy]
  try simp only
  split at k
  rotate_left
  · cases k
  rename_i e2 sz2 N2 hl
  rw [h.h _ _ hl]
  exact k
theorem TS_appZ {d e sz by_ N : Nat} (f : α → List SC) (z0 : α) (ks : List Nat) {cs : List SC} {m : Int} {l1 l' : List α} (he : appZO by_ l1 z0 m = some l') (hf : castL ks cs = f z0) (h : C.with1 (appZArgs P) = some (d, e, sz, by_, N, N, l1.map f, cs, m)) (hg : C.go1 n = true)
    (k : TS P K n (C.next ((C.st.setR d (.spare e sz l'.length)).put C.dst (.c (.slc sz (d + 2) l'.length (l'.map f))))) Q) : TS P K n C Q := by
  obtain ⟨os, o, ho, h1, h2, h3⟩ := go1_spec hg
  rw [h3] at k
  exact TS_stp ho (S_appZ f z0 ks he hf (with1_op h ho) h1 h2) k
theorem TD_appZ {d e sz by_ N : Nat} (f : α → List SC) (z0 : α) (ks : List Nat) {cs : List SC} {m : Int} {l1 l' : List α} (he : appZO by_ l1 z0 m = some l') (hf : castL ks cs = f z0) (h : D.with1 (appZArgs P) = some (d, e, sz, by_, N, N, l1.map f, cs, m)) (hg : D.go1 n = true)
    (k : TD P K n (D.push ⟨D.need, D.dst, .c (.slc sz (d + 2) l'.length (l'.map f)), some (d, .spare e sz l'.length), false⟩) Q) : TD P K n D Q := by
  obtain ⟨os, o, ho, h1, h2, h3⟩ := go1D_spec hg
  rw [h3] at k
  exact push_ok ho (fun _K _s hs _ => S_appZ f z0 ks he hf (hs.appZ (with1D_op h ho)) (hs.guard h1) h2) rfl k
end
end
/-! ## SHADOWS: parts of rows with a bound; a row cut off; clear; variables that are never written. -/
section
open Go.RowKit

/-! ### the bounds of a slice expression -/
theorem run_boundsC {P : Program} {w : World} {A : Act} {g : Env} {rd : Rd} {s : St} {o : Oper} (hview : OView g rd A w s o) {lo hi : Option Operand} (hlm : ∀ y, lo = some y → y ∈ o.op.operands.toList) (hhm : ∀ y, hi = some y → y ∈ o.op.operands.toList) {len cap : Nat} {a b : Int} {vlo vhi : Option (IntKind × Int)}
    (hlo : lo.map (opd s) = vlo.map fun p => some (int p.1 p.2)) (hhi : hi.map (opd s) = vhi.map fun p => some (int p.1 p.2)) (ha : a = (vlo.map (·.2)).getD 0) (hb : b = (vhi.map (·.2)).getD (len : Int)) (h0 : 0 ≤ a) (h1 : a ≤ b) (h2 : b ≤ cap) :
    (Instr.sliceBounds true len cap (lo.map A.eval) (hi.map A.eval) (none : Option Value)).run P w = .ok (a.toNat, b.toNat, cap) w := by
  have hb' : (match hi.map A.eval with | some v => Instr.sliceBound v cap .sliceAcap | none => pure len : Sem Nat).run P w = .ok b.toNat w := by
    cases hi with
    | none =>
      cases vhi with
      | none => simp at hb; subst hb; simp
      | some p => simp at hhi
    | some y =>
      cases vhi with
      | none => simp at hhi
      | some p =>
        simp only [Option.map_some, Option.some.injEq, Option.getD_some] at hhi hb
        have := rel_lit (hview.op y _ (hhm y rfl) hhi)
        simp only [Option.map_some, this]
        rw [← hb]
        exact run_bound _ _ _ _ (by omega) (by omega)
  have ha' : (match lo.map A.eval with | some v => Instr.sliceBound v b.toNat .sliceB | none => pure 0 : Sem Nat).run P w = .ok a.toNat w := by
    cases lo with
    | none =>
      cases vlo with
      | none => simp at ha; subst ha; simp
      | some p => simp at hlo
    | some y =>
      cases vlo with
      | none => simp at hlo
      | some p =>
        simp only [Option.map_some, Option.some.injEq, Option.getD_some] at hlo ha
        have := rel_lit (hview.op y _ (hlm y rfl) hlo)
        simp only [Option.map_some, this]
        rw [← ha]
        exact run_bound _ _ _ _ (by omega) (by omega)
  unfold Instr.sliceBounds
  cases hi with
  | none =>
    cases lo with
    | none => simp at ha' hb' ⊢; exact ⟨ha', hb'⟩
    | some y => simp only [Option.map_none, Option.map_some, Sem.run_bind, Sem.run_pure, Result.andThen_ok, Option.isSome_none, Bool.false_eq_true, if_false] at ha' hb' ⊢; cases hb'; rw [ha']; simp
  | some z =>
    cases lo with
    | none => simp only [Option.map_none, Option.map_some, Sem.run_bind, Sem.run_pure, Result.andThen_ok, if_true] at ha' hb' ⊢; rw [hb']; simp at ha' ⊢; exact ha'
    | some y => simp only [Option.map_some, Sem.run_bind, Sem.run_pure, Result.andThen_ok, Option.isSome_none, Bool.false_eq_true, if_false, if_true] at ha' hb' ⊢; rw [hb']; simp only [Result.andThen_ok]; rw [ha']; simp
theorem run_bounds3 {P : Program} {w : World} {A : Act} {g : Env} {rd : Rd} {s : St} {o : Oper} (hview : OView g rd A w s o) {lo : Option Operand} {hi mx : Operand} (hlm : ∀ y, lo = some y → y ∈ o.op.operands.toList) (hhm : hi ∈ o.op.operands.toList) (hmm : mx ∈ o.op.operands.toList) {len cap : Nat} {a b m : Int} {vlo : Option (IntKind × Int)} {kh km : IntKind}
    (hlo : lo.map (opd s) = vlo.map fun p => some (int p.1 p.2)) (hhi : opd s hi = some (int kh b)) (hmx : opd s mx = some (int km m)) (ha : a = (vlo.map (·.2)).getD 0) (h0 : 0 ≤ a) (h1 : a ≤ b) (h2 : b ≤ m) (h3 : m ≤ cap) :
    (Instr.sliceBounds true len cap (lo.map A.eval) (some (A.eval hi)) (some (A.eval mx))).run P w = .ok (a.toNat, b.toNat, m.toNat) w := by
  have e1 := rel_lit (hview.op hi _ hhm hhi)
  have e2 := rel_lit (hview.op mx _ hmm hmx)
  have hm' := run_bound (P := P) (w := w) km m cap .slice3Acap (by omega) h3
  have hb' := run_bound (P := P) (w := w) kh b m.toNat .slice3B (by omega) (by omega)
  unfold Instr.sliceBounds
  rw [e1, e2]
  cases lo with
  | none =>
    cases vlo with
    | none =>
      simp only [Option.map_none, Option.getD_none] at ha
      subst ha
      simp only [Option.map_none, if_true, Sem.run_bind, hm', Result.andThen_ok, hb', Sem.run_pure]
      rfl
    | some p => simp at hlo
  | some y =>
    cases vlo with
    | none => simp at hlo
    | some p =>
      simp only [Option.map_some, Option.some.injEq, Option.getD_some] at hlo ha
      have e3 := rel_lit (hview.op y _ (hlm y rfl) hlo)
      have ha' := run_bound (P := P) (w := w) p.1 p.2 b.toNat .slice3C (by omega) (by omega)
      subst ha
      simp only [Option.map_some, e3, if_true, Sem.run_bind, hm', Result.andThen_ok, hb', Option.isSome_some, ha', Sem.run_pure]

section
variable {P : Program} {o : Oper} {s : St} {α : Type}
/-! ### parts of a part of a row -/
def slPArgs (P : Program) (s : St) (o : Oper) : Option (Nat × Nat × Nat × Int × Int) := match o.op with
  | .slice t x lo hi none => match opd s x, P.underlying t with
    | some (.c (.row d m)), some (.slice e') => match look s.hp d, P.info? e' with
      | some (.row _ sz N _), some ie => match bnd s 0 lo, bnd s m hi with
        | some (_, a), some (_, b) => if ie.size = sz then some (d, sz, N, a, b) else none
        | _, _ => none
      | _, _ => none
    | _, _ => none
  | _ => none
theorem slP_run {d sz N : Nat} {a b : Int} (h : slPArgs P s o = some (d, sz, N, a, b)) (hc : decide (0 ≤ a ∧ a ≤ b ∧ b ≤ (N : Int)) = true) {g : Env} {rd : Rd} {A : Act} {w : World} (hview : OView g rd A w s o) :
    ∃ x c, (g.tk d).1 = .slice x N c ∧ N ≤ c ∧ c ≤ maxLen ∧ (N = 0 ∨ ∃ blk, x = some ⟨blk, 0, none⟩) ∧ (execOp A.eval o).run P w = .ok (.value (.slice (if c = a.toNat then x else x.map (·.add (a.toNat * sz))) (b.toNat - a.toNat) (c - a.toNat))) w := by
  unfold slPArgs at h
  split at h
  rotate_left
  · cases h
  rename_i t xo lo hi ho
  split at h
  rotate_left
  · cases h
  rename_i d1 m1 e1 hx hu
  split at h
  rotate_left
  · cases h
  rename_i e2 sz2 N2 xs2 ie hl hie
  split at h
  rotate_left
  · cases h
  rename_i vlo a1 vhi b1 hlo hhi
  split at h
  rotate_left
  · cases h
  rename_i hsz
  cases h
  obtain ⟨c0, c1, c2⟩ := of_decide_eq_true hc
  obtain ⟨us, h3, h4, h5⟩ := hview.holds d _ hl
  obtain ⟨x, c, k1, k2, k3, _, k5⟩ := tk_slice h3
  obtain ⟨x', N', c', r1, hv, r3⟩ := hview.op xo _ (by simp [ho, Op.operands]) hx
  rw [k1] at r1
  cases r1
  refine ⟨x, c, k1, k2, k3, ?_, ?_⟩
  · rcases k5 with k5 | ⟨blk, k5, _⟩
    · exact .inl k5
    · exact .inr ⟨blk, k5⟩
  · obtain ⟨q1, q2⟩ := bnd_spec hlo
    obtain ⟨q3, q4⟩ := bnd_spec hhi
    have hk := run_boundsC (P := P) (A := A) hview (lo := lo) (hi := hi) (fun y hy => by subst hy; simp [ho, Op.operands]) (fun y hy => by subst hy; cases lo <;> simp [ho, Op.operands]) (len := m1) (cap := c) q1 q3 q2 q4 c0 c1 (by omega)
    simp only [execOp, ho, Option.map_none, Instr.sliceAt, Instr.slice, run_underlying hu, hv, hk, sizeOf, typeInfo, program, hie, Sem.run_bind, Sem.run_pure, Sem.run, Result.andThen_ok, hsz]
theorem grow_slPRow {d sz N : Nat} {a b : Int} (h : slPArgs P s o = some (d, sz, N, a, b)) (hc : decide (0 ≤ a ∧ a ≤ b ∧ b ≤ (N : Int)) = true) (ha : a = 0) : GrowOp P o s (.c (.row d b.toNat)) := by
  refine PureOp.grow fun g rd A w hview => ?_
  obtain ⟨x, c, k1, k2, k3, k4, k5⟩ := slP_run h hc hview
  obtain ⟨c0, c1, c2⟩ := of_decide_eq_true hc
  subst ha
  refine ⟨_, k5, x, N, c, k1, ?_, by omega⟩
  simp only [Int.toNat_zero, Nat.sub_zero, Nat.zero_mul]
  split
  · rfl
  · cases x with
    | none => rfl
    | some ad =>
      simp only [Option.map_some]
      rcases k4 with k4 | ⟨blk, k4⟩
      · congr 2
      · cases k4; rfl
theorem sub_of_run {d sz N : Nat} {a b : Int} {rd : Rd} {g : Env} {x : Option Addr} {c m : Nat} (k1 : (g.tk d).1 = .slice x N c) (k3 : c ≤ maxLen) (k4 : N = 0 ∨ ∃ blk, x = some ⟨blk, 0, none⟩) (c0 : 0 ≤ a) (c1 : a ≤ b) (c2 : b ≤ (N : Int)) (hm : b.toNat ≤ m) (hmc : m ≤ c) :
    VRel rd g (.slice (if m = a.toNat then x else x.map (·.add (a.toNat * sz))) (b.toNat - a.toNat) (m - a.toNat)) (.c (.sub d sz a.toNat (b.toNat - a.toNat))) := by
  refine ⟨x, N, c, _, _, k1, by omega, rfl, by omega, by omega, ?_⟩
  by_cases hz : b.toNat - a.toNat = 0
  · exact .inl hz
  · right
    rcases k4 with k4 | ⟨blk, k4⟩
    · omega
    · refine ⟨blk, k4, ?_⟩
      rw [if_neg (by omega), k4]
      simp only [Option.map_some, addr_add, Nat.zero_add]
theorem grow_slPSub {d sz N : Nat} {a b : Int} (h : slPArgs P s o = some (d, sz, N, a, b)) (hc : decide (0 ≤ a ∧ a ≤ b ∧ b ≤ (N : Int)) = true) : GrowOp P o s (.c (.sub d sz a.toNat (b.toNat - a.toNat))) := by
  refine PureOp.grow fun g rd A w hview => ?_
  obtain ⟨x, c, k1, k2, k3, k4, k5⟩ := slP_run h hc hview
  obtain ⟨c0, c1, c2⟩ := of_decide_eq_true hc
  exact ⟨_, k5, sub_of_run k1 k3 k4 c0 c1 c2 (by omega) (Nat.le_refl _)⟩
/-! ### with a bound on the room -/
def slMArgs (P : Program) (s : St) (o : Oper) : Option (Nat × Nat × Nat × Int × Int × Int) := match o.op with
  | .slice t x lo (some hi) (some mx) => match (opd s x).bind (preOf s), P.underlying t with
    | some (d, _, sz, N, _, _), some (.slice e') => match P.info? e', bnd s 0 lo, opd s hi, opd s mx with
      | some ie, some (_, a), some (.c (.lit (.int _ b))), some (.c (.lit (.int _ m))) => if ie.size = sz then some (d, sz, N, a, b, m) else none
      | _, _, _, _ => none
    | _, _ => none
  | _ => none
theorem grow_slM {d sz N : Nat} {a b m : Int} (h : slMArgs P s o = some (d, sz, N, a, b, m)) (hc : decide (0 ≤ a ∧ a ≤ b ∧ b ≤ m ∧ m ≤ (N : Int)) = true) : GrowOp P o s (.c (.sub d sz a.toNat (b.toNat - a.toNat))) := by
  refine PureOp.grow fun g rd A w hview => ?_
  unfold slMArgs at h
  split at h
  rotate_left
  · cases h
  rename_i t xo lo hi mx ho
  split at h
  rotate_left
  · cases h
  rename_i d1 e1 sz1 N1 xs1 m1 e2 hx hu
  split at h
  rotate_left
  · cases h
  rename_i ie vlo a1 kb b1 km mm hie hlo hhi hmx
  split at h
  rotate_left
  · cases h
  rename_i hsz
  cases h
  obtain ⟨vx, hx1, hx2⟩ := Option.bind_eq_some_iff.1 hx
  obtain ⟨c0, c1, c2, c3⟩ := of_decide_eq_true hc
  have hl := preOf_look hx2
  obtain ⟨us, h3, h4, h5⟩ := hview.holds d _ hl
  obtain ⟨x, c, k1, k2, k3, _, k5⟩ := tk_slice h3
  have hv : ∃ n, A.eval xo = .slice x n c := by
    have hr := hview.op xo _ (by simp [ho, Op.operands]) hx1
    unfold preOf at hx2
    split at hx2
    · split at hx2
      · cases hx2; exact ⟨_, hr.1.trans k1⟩
      · cases hx2
    · split at hx2
      · cases hx2
        obtain ⟨x', N', c', r1, hv, r3⟩ := hr
        rw [k1] at r1
        cases r1
        exact ⟨_, hv⟩
      · cases hx2
    · cases hx2
  obtain ⟨n0, hv⟩ := hv
  obtain ⟨q1, q2⟩ := bnd_spec hlo
  have hk := run_bounds3 (P := P) (A := A) hview (lo := lo) (hi := hi) (mx := mx) (fun y hy => by subst hy; simp [ho, Op.operands]) (by cases lo <;> simp [ho, Op.operands]) (by cases lo <;> simp [ho, Op.operands]) (len := n0) (cap := c) q1 hhi hmx q2 c0 c1 c2 (by omega)
  refine ⟨.slice (if m.toNat = a.toNat then x else x.map (·.add (a.toNat * sz))) (b.toNat - a.toNat) (m.toNat - a.toNat), ?_, sub_of_run k1 k3 (by
    rcases k5 with k5 | ⟨blk, k5, _⟩
    · exact .inl k5
    · exact .inr ⟨blk, k5⟩) c0 c1 (by omega) (by omega) (by omega)⟩
  simp only [execOp, ho, Option.map_some, Instr.sliceAt, Instr.slice, run_underlying hu, hv, hk, sizeOf, typeInfo, program, hie, Sem.run_bind, Sem.run_pure, Sem.run, Result.andThen_ok, hsz]
end

section
variable {P : Program} {K : Ctx} {n : Nat} {Q : Exit → St → Prop} {C : Cfg} {D : Dr}
theorem TS_slPRow (d sz N : Nat) {a b : Int} (hc : decide (0 ≤ a ∧ a ≤ b ∧ b ≤ (N : Int)) = true) (ha : a = 0) (h : C.with1 (slPArgs P) = some (d, sz, N, a, b)) (hg : C.go1 n = true) (kk : TS P K n (C.ret (.c (.row d b.toNat))) Q) : TS P K n C Q :=
  TS_val _ hg (fun _os _o ho => grow_slPRow (with1_op h ho) hc ha) kk
theorem TD_slPRow (d sz N : Nat) {a b : Int} (hc : decide (0 ≤ a ∧ a ≤ b ∧ b ≤ (N : Int)) = true) (ha : a = 0) (h : D.with1 (slPArgs P) = some (d, sz, N, a, b)) (hg : D.go1 n = true) (kk : TD P K n (D.ret (.c (.row d b.toNat))) Q) : TD P K n D Q :=
  TD_val _ hg (fun _os _o ho => grow_slPRow (with1D_op h ho) hc ha) kk
theorem TS_slPSub (d sz N : Nat) {a b : Int} (hc : decide (0 ≤ a ∧ a ≤ b ∧ b ≤ (N : Int)) = true) (h : C.with1 (slPArgs P) = some (d, sz, N, a, b)) (hg : C.go1 n = true) (kk : TS P K n (C.ret (.c (.sub d sz a.toNat (b.toNat - a.toNat)))) Q) : TS P K n C Q :=
  TS_val _ hg (fun _os _o ho => grow_slPSub (with1_op h ho) hc) kk
theorem TD_slPSub (d sz N : Nat) {a b : Int} (hc : decide (0 ≤ a ∧ a ≤ b ∧ b ≤ (N : Int)) = true) (h : D.with1 (slPArgs P) = some (d, sz, N, a, b)) (hg : D.go1 n = true) (kk : TD P K n (D.ret (.c (.sub d sz a.toNat (b.toNat - a.toNat)))) Q) : TD P K n D Q :=
  TD_val _ hg (fun _os _o ho => grow_slPSub (with1D_op h ho) hc) kk
theorem TS_slM (d sz N : Nat) {a b m : Int} (hc : decide (0 ≤ a ∧ a ≤ b ∧ b ≤ m ∧ m ≤ (N : Int)) = true) (h : C.with1 (slMArgs P) = some (d, sz, N, a, b, m)) (hg : C.go1 n = true) (kk : TS P K n (C.ret (.c (.sub d sz a.toNat (b.toNat - a.toNat)))) Q) : TS P K n C Q :=
  TS_val _ hg (fun _os _o ho => grow_slM (with1_op h ho) hc) kk
theorem TD_slM (d sz N : Nat) {a b m : Int} (hc : decide (0 ≤ a ∧ a ≤ b ∧ b ≤ m ∧ m ≤ (N : Int)) = true) (h : D.with1 (slMArgs P) = some (d, sz, N, a, b, m)) (hg : D.go1 n = true) (kk : TD P K n (D.ret (.c (.sub d sz a.toNat (b.toNat - a.toNat)))) Q) : TD P K n D Q :=
  TD_val _ hg (fun _os _o ho => grow_slM (with1D_op h ho) hc) kk
/-! ### a row cut off -/
def rowAt (s : St) (t : Nat) : Option (Nat × Nat × Nat × Nat × Nat × List (List SC)) := match look s.tmps t with
  | some (.c (.row d m)) => match look s.hp d with
    | some (.row e sz N xs) => some (d, m, e, sz, N, xs)
    | _ => none
  | _ => none
theorem ownsRow_cut {w : World} {e sz N m : Nat} {x : Option Addr} {c : Nat} {us : List Value} (h : w.ownsRow 0 e sz (.slice x N c) N us) (hm : m ≤ N) : w.ownsRow 0 e sz (.slice x m c) m (us.take (m * sz)) := by
  have hms : m * sz ≤ N * sz := Nat.mul_le_mul_right _ hm
  refine ⟨by rw [List.length_take, h.1]; omega, ?_⟩
  rcases h.2 with ⟨hn, h0⟩ | ⟨gb, cap, cur, hv, hb, hgg, h1, h2, h3, h4⟩
  · cases hn
    obtain rfl : m = 0 := by omega
    exact .inl ⟨rfl, rfl⟩
  · cases hv
    refine .inr ⟨gb, c, cur, rfl, hb, hgg, by omega, h2, h3, ?_⟩
    rw [← h4, List.take_take, Nat.min_eq_left hms]
theorem TS_trunc (t : Nat) {d m e sz N : Nat} {xs : List (List SC)} (N2 : Nat) (ys : List (List SC)) (hy : xs.take m = ys) (hN : ys.length = N2) (h : rowAt C.st t = some (d, m, e, sz, N, xs)) (he : C.pre = true) (k : TS P K n (C.withS (((C.st.mapC (SC.kill d)).setR d (.row e sz N2 ys)).put (some t) (.c (.own d)))) Q) : TS P K n C Q := by
  unfold rowAt at h
  split at h
  rotate_left
  · cases h
  rename_i d1 m1 hlt
  split at h
  rotate_left
  · cases h
  rename_i e1 sz1 N1 xs1 hl
  cases h
  refine TS_state _ (fun a w r => ?_) he k
  obtain ⟨g, r⟩ := r
  obtain ⟨us, h1, h2, h3⟩ := r.hg.holds d _ hl
  obtain ⟨u, hu1, hu2⟩ := r.tmps t _ hlt
  obtain ⟨x, N', c, k1, rfl, k3⟩ := hu2
  have hN' : N' = N := by
    obtain ⟨x', c', k4, _⟩ := tk_slice h1
    rw [k1] at k4
    cases k4
    rfl
  subst hN'
  rw [k1] at h1
  have hcut := ownsRow_cut h1 k3
  have hm : m = N2 := by rw [← hN, ← hy, List.length_take, h2, Nat.min_eq_left k3]
  let g' : Env := { pos := g.pos, tk := fun e => if e = d then (.slice x m c, (g.tk d).2) else g.tk e }
  have hgd' : g'.tk d = (.slice x m c, (g.tk d).2) := by simp [g']
  have hot : Other g g' d := ⟨fun _ => rfl, fun e q => by simp [g', q], fun e => by by_cases q : e = d <;> simp [g', q]⟩
  obtain ⟨r1, hle⟩ := r.turn (g' := g') (w' := w) (r := .row e sz N2 ys) (SC.kill d) hl (fun _ => rfl) (fun e q => by simp [g', q]) (fun _ => true) (fun _ v _ => v.every_true) (fun _ x _ => x.every_true) (fun hle v y _ hc => hc.kill hle hot) (Keep.refl _ _) (fun b o hf => by
      simp only [Foot, hgd'] at hf
      refine .inl ?_
      simp only [Foot, k1]
      cases x with
      | none => simp [Value.ownBlock] at hf
      | some ad => exact hf) (fun _ q => by cases q) rfl (fun hle => by
      refine ⟨us.take (m * sz), by rw [hgd', ← hm]; exact hcut, hN, ?_⟩
      have := h3.cut 0 m
      simp only [Nat.zero_mul, List.drop_zero, hy] at this
      exact this.mono hle)
  refine ⟨g', r1.defers, r1.size, r1.few, r1.hg, fun j v hv => ?_⟩
  rw [look_put] at hv
  split at hv
  · rename_i hj
    cases hv
    subst hj
    exact ⟨_, hu1, by rw [hgd'], x, m, c, by rw [hgd']⟩
  · exact r1.tmps j v hv
end
end
/-! ## SHADOWS: clear; slices without room; nil within a struct as a row of its own; variables that are never written; windows at computed places. -/
section
open Go.RowKit

section
variable {P : Program} {K : Ctx} {n : Nat} {Q : Exit → St → Prop} {C : Cfg} {D : Dr} {g : Env} {a : Act} {w : World} {s : St} {o : Oper} {α : Type}
/-! ### a nil within a struct as a row that may be written -/
def nilRA (s : St) (t j d e sz : Nat) : Option St := match look s.tmps t with
  | some (.agg cs) => match cs[j]? with
    | some (.lit (.slice none 0 0)) => if decide (d < 1000000) && s.noname d none then some ((s.setR d (.row e sz 0 [])).put (some t) (.agg (cs.set j (.own d)))) else none
    | _ => none
  | _ => none
theorem R.nilRA {s' : St} (h : R K n a w s) {t j d e sz : Nat} (hs : nilRA s t j d e sz = some s') : R K n a w s' := by
  obtain ⟨g, h⟩ := h
  unfold Go.Proofs.Ytohfnlkjdjmipaa.nilRA at hs
  split at hs
  · rename_i cs hl
    split at hs
    · rename_i hj
      split at hs
      · rename_i hq
        simp only [Bool.and_eq_true, decide_eq_true_eq] at hq
        cases hs
        have h1 := h.nilRow d e sz hq.1 (noname_spec hq.2)
        refine ⟨_, h1.recast (t := t) hl (fun u hu => ?_)⟩
        obtain ⟨vs, k1, k2, k3⟩ := hu
        refine ⟨vs, k1, by simpa using k2, fun i y hy => ?_⟩
        rw [List.getElem?_set] at hy
        split at hy
        · rename_i hij
          subst hij
          split at hy
          · cases hy
            obtain ⟨v, q1, q2⟩ := k3 j _ hj
            have : v = .slice none 0 0 := by cases q2; rfl
            subst this
            exact ⟨_, q1, by simp [Env.setTk], none, 0, 0, by simp [Env.setTk]⟩
          · cases hy
        · exact k3 i y hy
      · cases hs
    · cases hs
  · cases hs
theorem TS_nilRA (t j d e sz : Nat) (he : C.pre = true) (k : TS P K n (C.st2 (nilRA C.st t j d e sz)) Q) : TS P K n C Q := TS_st2 (fun _ _ _ hs r => r.nilRA hs) he k
/-! ### clear -/
def clrL (l : List α) (a m : Nat) (z : α) : List α := l.take a ++ List.replicate m z ++ l.drop (a + m)
def clrArgs (P : Program) (s : St) (o : Oper) : Option (Nat × Nat × Nat × Nat × List (List SC) × Cut × Nat × List SC) := match o.op with
  | .call { callee := .builtin .clear, args := xs, argTypes := ts } => match xs.toList, ts.toList with
    | [x], [t] => match P.underlying t with
      | some (.slice e') => match P.info? e' with
        | some ie => match ie.zero, (opd s x).bind (rowOfS s) with
          | some z, some (d, e, sz, N, xs, c, a) => if ie.size = sz ∧ 0 < sz ∧ z.cells.size = sz ∧ z.cells.all Value.oneCell' = true then some (d, e, sz, N, xs, c, a, z.cells.toList.map SC.lit) else none
          | _, _ => none
        | none => none
      | _ => none
    | _, _ => none
  | _ => none
theorem rowOfS_look {v : SV} {d e sz N a : Nat} {xs : List (List SC)} {c : Cut} (hx2 : rowOfS s v = some (d, e, sz, N, xs, c, a)) : look s.hp d = some (.row e sz N xs) := by
  unfold rowOfS at hx2
  split at hx2
  · split at hx2
    · rename_i hl; cases hx2; exact hl
    · cases hx2
  · split at hx2
    · rename_i hl; cases hx2; exact hl
    · cases hx2
  · split at hx2
    · rename_i hl
      split at hx2
      · cases hx2; exact hl
      · cases hx2
    · cases hx2
  · cases hx2
theorem upd_clr {d e sz N a : Nat} {f : α → List SC} (z0 : α) (ks : List Nat) {cs : List SC} {l : List α} {c : Cut} (hf : castL ks cs = f z0) (h : clrArgs P s o = some (d, e, sz, N, l.map f, c, a, cs)) :
    UpdOp P o s d (.row e sz N (l.map f)) (.row e sz (clrL l a (c.app l).length z0).length ((clrL l a (c.app l).length z0).map f)) (.tup []) := by
  unfold clrArgs at h
  split at h
  rotate_left
  · cases h
  rename_i xs ts ho
  split at h
  rotate_left
  · cases h
  rename_i x t hxs hts
  have hxs' : xs = #[x] := by rw [← Array.toArray_toList (xs := xs), hxs]
  have hts' : ts = #[t] := by rw [← Array.toArray_toList (xs := ts), hts]
  subst hxs'
  subst hts'
  split at h
  rotate_left
  · cases h
  rename_i e1 hu
  split at h
  rotate_left
  · cases h
  rename_i ie hie
  split at h
  rotate_left
  · cases h
  rename_i z d1 e2 sz2 N2 xs2 c2 a2 hz hx
  split at h
  rotate_left
  · cases h
  rename_i hq
  obtain ⟨hsz, hs0, hzc, hone⟩ := hq
  cases h
  obtain ⟨vx, hx1, hx2⟩ := Option.bind_eq_some_iff.1 hx
  have hl := rowOfS_look hx2
  refine ⟨hl, rfl, fun _ _ _ hf => hf, fun g rd A w hview => ?_⟩
  obtain ⟨_, hr⟩ := rowOfS_rel hx2 hview (hview.op x _ (by simp [ho, Op.operands, Call.operands]) hx1)
  obtain ⟨us, h1, h2, h3⟩ := hr.own
  obtain ⟨xa, cap, q1, q2, q3, q4, q5⟩ := hr.val
  rw [Cut.map, List.length_map] at q1 q2 q4 q5
  simp only [execOp, ho, resolve, invoke, builtin, Sem.run_bind, Sem.run_pure, Result.andThen_ok, List.map_toArray, List.map_cons, List.map_nil, q1]
  generalize hk : (c.app l).length = k at *
  by_cases hk0 : k = 0
  · subst hk0
    have hrun : (Builtin.clear_ #[t] o.type #[.slice xa 0 cap]).run P w = .ok (.tuple #[]) w := by
      cases xa <;> simp [Builtin.clear_, run_underlying hu]
    rw [hrun]
    simp only [Result.andThen_ok]
    refine ⟨_, _, rfl, Keep.refl _ _, .inr ⟨_, rfl, fun rd' _ => ⟨#[], rfl, rfl, fun j y hy => by simp at hy⟩⟩, fun rd' hle => ?_⟩
    have : clrL l a 0 z0 = l := by simp [clrL]
    rw [this]
    have hlN : l.length = N := by simpa using h2
    exact ⟨us, by rw [hlN]; exact h1, by simp, h3.mono hle⟩
  · rcases q5 with q5 | ⟨b, q5, q6⟩
    · omega
    subst q6
    have hzl : (Builtin.zeroCells z.cells k).toList.length = k * sz := by simp [Builtin.zeroCells, hzc]
    have hzr := zeroCells_row (rd := rd) k f z0 ks hzc hf
    have hz1 := zeroCells_one (z := z) k (fun u hu => Array.all_eq_true'.1 hone u (by simpa using hu))
    generalize hvals : (Builtin.zeroCells z.cells k).toList = vals at *
    have hb1 : a * sz + k * sz ≤ N * sz := by rw [← Nat.add_mul]; exact Nat.mul_le_mul_right _ (by omega)
    have hul := h1.1
    have hst := run_storeCells_cells (P := P) b (a * sz) vals 0 w
      (fun j hj => by
        have := h1.cells q5 (a * sz + j) _ (List.getElem?_eq_getElem (by omega))
        rw [addr_add, Nat.zero_add] at this
        rw [Nat.add_zero, this]; rfl)
      (fun j hj => by
        rcases h1.2 with ⟨q, _⟩ | ⟨gb, cap, cur, q1, _, q2, _⟩
        · rw [q] at q5; cases q5
        · rw [q1] at q5; cases q5
          simp [World.frozen?, q2]) hz1
    simp only [Nat.add_zero] at hst
    obtain ⟨o1, o2⟩ := own_write h1 q5 (a * sz) vals (by omega)
    have hrun : (Builtin.clear_ #[t] o.type #[.slice (some ⟨b, a * sz, none⟩) k cap]).run P w = .ok (.tuple #[]) (w.setCells b (a * sz) vals) := by
      obtain ⟨k', rfl⟩ : ∃ k', k = k' + 1 := ⟨k - 1, by omega⟩
      simp [Builtin.clear_, run_underlying hu, zeroValue, typeInfo, hie, hz, hvals, hst]
    rw [hrun]
    simp only [Result.andThen_ok]
    refine ⟨_, _, rfl, o2, .inr ⟨_, rfl, fun rd' _ => ⟨#[], rfl, rfl, fun j y hy => by simp at hy⟩⟩, fun rd' hle => ⟨_, (by
      have hlN : (clrL l a k z0).length = N := by
        unfold clrL
        simp only [List.length_map, List.length_append, List.length_take, List.length_drop, List.length_replicate] at h2 ⊢
        omega
      rw [hlN]; exact o1), by simp, ?_⟩⟩
    unfold clrL
    rw [List.map_append, List.map_append, hzl, ← Nat.add_mul]
    refine RowIs.mono hle ?_
    have e1 : RowIs rd sz (us.take (a * sz)) ((l.take a).map f) := by
      have := h3.cut 0 a
      simpa [List.map_take] using this
    have e3 : RowIs rd sz (us.drop ((a + k) * sz)) ((l.drop (a + k)).map f) := by
      have := h3.cut (a + k) (N - (a + k))
      have q : (us.drop ((a + k) * sz)).take ((N - (a + k)) * sz) = us.drop ((a + k) * sz) := List.take_of_length_le (by rw [List.length_drop, hul, ← Nat.sub_mul]; exact Nat.le_refl _)
      have q' : ((l.map f).drop (a + k)).take (N - (a + k)) = (l.drop (a + k)).map f := by
        rw [List.map_drop]; exact List.take_of_length_le (by rw [List.length_drop, h2]; exact Nat.le_refl _)
      rw [q, q'] at this
      exact this
    have hal : a ≤ l.length := by rw [List.length_map] at h2; omega
    refine (e1.append hzr ?_).append e3 ?_
    · simp only [List.length_map, List.length_take]; rw [Nat.min_eq_left (by rw [hul]; omega), Nat.min_eq_left hal]
    · simp only [List.length_map, List.length_append, List.length_take, hzl, List.length_replicate]; rw [Nat.min_eq_left (by rw [hul]; omega), Nat.min_eq_left hal, Nat.add_mul]
theorem TS_clr (d e sz N a : Nat) (f : α → List SC) (z0 : α) (ks : List Nat) {cs : List SC} {l : List α} (c : Cut) (hf : castL ks cs = f z0) (h : C.with1 (clrArgs P) = some (d, e, sz, N, l.map f, c, a, cs)) (hg : C.go1 n = true) (kk : TS P K n (C.next ((C.st.setR d (.row e sz (clrL l a (c.app l).length z0).length ((clrL l a (c.app l).length z0).map f))).put C.dst (.tup []))) Q) : TS P K n C Q :=
  TS_upd (fun _os _o ho => upd_clr z0 ks hf (with1_op h ho)) hg kk
theorem TD_clr (d e sz N a : Nat) (f : α → List SC) (z0 : α) (ks : List Nat) {cs : List SC} {l : List α} (c : Cut) (hf : castL ks cs = f z0) (h : D.with1 (clrArgs P) = some (d, e, sz, N, l.map f, c, a, cs)) (hg : D.go1 n = true) (kk : TD P K n (D.push ⟨D.need, D.dst, .tup [], some (d, .row e sz (clrL l a (c.app l).length z0).length ((clrL l a (c.app l).length z0).map f)), false⟩) Q) : TD P K n D Q :=
  TD_upd (fun _os _o ho => upd_clr z0 ks hf (with1D_op h ho)) hg kk
/-! ### a slice without room behind it -/
def sub3Args (P : Program) (s : St) (o : Oper) : Option (Nat × List (List SC) × Int × Int × Int) := match o.op with
  | .slice t x lo (some hi) (some mx) => match opd s x, P.underlying t with
    | some (.c (.slc sz _ _ xs)), some (.slice e) => match P.info? e, bnd s 0 lo, opd s hi, opd s mx with
      | some ie, some (_, a), some (.c (.lit (.int _ b))), some (.c (.lit (.int _ m))) => if ie.size = sz then some (sz, xs, a, b, m) else none
      | _, _, _, _ => none
    | _, _ => none
  | _ => none
theorem grow_sub3 {f : α → List SC} {sz : Nat} {l l' : List α} {a b : Int} (he : subO l a b = some l') (h : sub3Args P s o = some (sz, l.map f, a, b, b)) : GrowOp P o s (.c (.slc sz 1 l'.length (l'.map f))) := by
  unfold subO at he
  split at he
  rotate_left
  · cases he
  rename_i hab
  cases he
  unfold sub3Args at h
  split at h
  rotate_left
  · cases h
  rename_i t x lo hi mx ho
  split at h
  rotate_left
  · cases h
  rename_i sz' tag N xs e' hx hu
  split at h
  rotate_left
  · cases h
  rename_i ie v1 a' kb b' km m' hie h1 h2 h3
  split at h
  rotate_left
  · cases h
  rename_i hs
  cases h
  obtain ⟨q1, q2⟩ := bnd_spec h1
  refine PureOp.grow fun g rd A w hview => ?_
  obtain ⟨hv, _⟩ := hview.op x _ (by simp [ho, Op.operands]) hx
  have hN : N = l.length := (irel_n hv).trans (by simp)
  subst hN
  obtain ⟨p1, p2, p3⟩ := hab
  have hk : ∀ len cap : Nat, len = l.length → len ≤ cap → (Instr.sliceBounds true len cap (lo.map A.eval) (some (A.eval hi)) (some (A.eval mx))).run P w = .ok (a.toNat, b.toNat, b.toNat) w := fun len cap hlen hcap =>
    run_bounds3 (P := P) (A := A) hview (lo := lo) (hi := hi) (mx := mx) (fun y hy => by subst hy; simp [ho, Op.operands]) (by cases lo <;> simp [ho, Op.operands]) (by cases lo <;> simp [ho, Op.operands]) (len := len) (cap := cap) q1 h2 h3 q2 p1 p2 (Int.le_refl b) (by omega)
  generalize hev : A.eval x = v at *
  generalize hxs : l.map f = xs at hv
  generalize hLL : l.length = LL at hv
  cases hv with
  | nil _ a0 c0 hm =>
    have hl0 : l = [] := by simpa using hxs
    subst hl0
    have hb0 : b.toNat = 0 := by simp at p3; omega
    have ha0 : a.toNat = 0 := by simp at p3; omega
    have hk0 := hk 0 c0 rfl (Nat.zero_le _)
    rw [hb0, ha0] at hk0
    refine ⟨.slice a0 0 0, ?_, ?_, ?_⟩
    · simp only [execOp, ho, Option.map_some, Instr.sliceAt, Instr.slice, run_underlying hu, hev, hk0, sizeOf, typeInfo, program, hie, Sem.run_bind, Sem.run_pure, Sem.run, Result.andThen_ok, if_true, Nat.sub_self]
    · simp only [List.take_nil, List.drop_nil, List.length_nil, List.map_nil]
      exact .nil _ _ _ (Nat.zero_le _)
    · simp only [List.take_nil, List.drop_nil, List.length_nil]
      cases a0 with
      | none => exact .inl rfl
      | some ad => exact .inr ⟨ad, rfl⟩
  | slc b0 o0 n0 c0 s0 xs0 u0 hn hc hm hs' hr hu' =>
    subst hxs
    have hk0 := hk LL c0 hLL.symm hc
    have hbl : b.toNat ≤ l.length := by omega
    have hlen : ((l.take b.toNat).drop a.toNat).length = b.toNat - a.toNat := by simp; omega
    refine ⟨.slice (if b.toNat = a.toNat then some ⟨b0, o0, none⟩ else some ⟨b0, o0 + a.toNat * sz, none⟩) (b.toNat - a.toNat) (b.toNat - a.toNat), ?_, ?_, ?_⟩
    · simp only [execOp, ho, Option.map_some, Instr.sliceAt, Instr.slice, run_underlying hu, hev, hk0, sizeOf, typeInfo, program, hie, Sem.run_bind, Sem.run_pure, Sem.run, Result.andThen_ok, hs, addr_add]
    · by_cases hz : b.toNat = a.toNat
      · have h0 : (l.take b.toNat).drop a.toNat = [] := List.eq_nil_of_length_eq_zero (by rw [hlen]; omega)
        rw [h0, hz, Nat.sub_self]
        simp only [List.length_nil, List.map_nil]
        exact .nil _ _ _ (Nat.zero_le _)
      · rw [if_neg hz, hlen]
        refine .slc b0 (o0 + a.toNat * sz) _ _ sz (((l.take b.toNat).drop a.toNat).map f) (fun i j => u0 (a.toNat + i) j) (by rw [List.length_map, hlen]) (Nat.le_refl _) (by omega) (fun y hy => ?_) (fun i y j z hy hz' => ?_) (fun i y j z hy hz' => ?_)
        · obtain ⟨y0, hy0, rfl⟩ := List.mem_map.1 hy
          exact hs' (f y0) (List.mem_map_of_mem (List.mem_of_mem_take (List.mem_of_mem_drop hy0)))
        · have hy2 : (l.map f)[a.toNat + i]? = some y := by
            rw [List.getElem?_map, List.getElem?_drop, List.getElem?_take] at hy
            split at hy
            · rw [List.getElem?_map]; exact hy
            · cases hy
          rw [show o0 + a.toNat * sz + i * sz + j = o0 + (a.toNat + i) * sz + j by rw [Nat.add_mul]; omega]
          exact hr _ _ _ _ hy2 hz'
        · have hy2 : (l.map f)[a.toNat + i]? = some y := by
            rw [List.getElem?_map, List.getElem?_drop, List.getElem?_take] at hy
            split at hy
            · rw [List.getElem?_map]; exact hy
            · cases hy
          exact hu' _ _ _ _ hy2 hz'
    · rw [hlen]
      right
      split
      · exact ⟨_, rfl⟩
      · exact ⟨_, rfl⟩
theorem TS_sub3 (f : α → List SC) (sz : Nat) {l l' : List α} {a b : Int} (he : subO l a b = some l') (h : C.with1 (sub3Args P) = some (sz, l.map f, a, b, b)) (hg : C.go1 n = true) (k : TS P K n (C.ret (.c (.slc sz 1 l'.length (l'.map f)))) Q) : TS P K n C Q :=
  TS_val _ hg (fun _ _ ho => grow_sub3 he (with1_op h ho)) k
theorem TD_sub3 (f : α → List SC) (sz : Nat) {l l' : List α} {a b : Int} (he : subO l a b = some l') (h : D.with1 (sub3Args P) = some (sz, l.map f, a, b, b)) (hg : D.go1 n = true) (k : TD P K n (D.ret (.c (.slc sz 1 l'.length (l'.map f)))) Q) : TD P K n D Q :=
  TD_val _ hg (fun _ _ ho => grow_sub3 he (with1D_op h ho)) k
/-! ### nil: its capacity, its parts -/
def capNArgs (P : Program) (s : St) (o : Oper) : Option Unit := match o.op with
  | .call { callee := .builtin .cap, args := xs, argTypes := ts } => match xs.toList, ts.toList with
    | [x], [t] => match P.underlying t, opd s x with
      | some (.slice _), some (.c (.lit (.slice none 0 0))) => some ()
      | _, _ => none
    | _, _ => none
  | .slice t x lo hi none => match P.underlying t, opd s x with
    | some (.slice e), some (.c (.lit (.slice none 0 0))) => match P.info? e, bnd s 0 lo, bnd s 0 hi with
      | some _, some (_, 0), some (_, 0) => some ()
      | _, _, _ => none
    | _, _ => none
  | _ => none
theorem grow_capN (ho : ∃ c, o.op = .call c) (h : capNArgs P s o = some ()) : GrowOp P o s (int .i64 0) := by
  obtain ⟨c0, ho0⟩ := ho
  unfold capNArgs at h
  split at h
  · rename_i xs ts ho
    split at h
    rotate_left
    · cases h
    rename_i x t hxs hts
    have hxs' : xs = #[x] := by rw [← Array.toArray_toList (xs := xs), hxs]
    have hts' : ts = #[t] := by rw [← Array.toArray_toList (xs := ts), hts]
    subst hxs'
    subst hts'
    split at h
    rotate_left
    · cases h
    rename_i e hu hx
    refine PureOp.grow fun g rd A w hview => ?_
    have h1 := rel_lit (hview.op x _ (by simp [ho, Op.operands, Call.operands]) hx)
    refine ⟨.int .i64 0, ?_, .lit _⟩
    simp [execOp, ho, resolve, invoke, builtin, h1, Builtin.cap_, run_underlying hu, goInt]
  · rename_i ho; rw [ho0] at ho; cases ho
  · cases h
theorem grow_slN (ho : ∃ t x lo hi, o.op = .slice t x lo hi none) (h : capNArgs P s o = some ()) : GrowOp P o s (.c (.lit (.slice none 0 0))) := by
  obtain ⟨t0, x0, lo0, hi0, ho0⟩ := ho
  unfold capNArgs at h
  split at h
  · rename_i ho; rw [ho0] at ho; cases ho
  · rename_i t x lo hi ho
    split at h
    rotate_left
    · cases h
    rename_i e hu hx
    split at h
    rotate_left
    · cases h
    rename_i ie v1 v2 hie h1 h2
    obtain ⟨q1, q2⟩ := bnd_spec h1
    obtain ⟨q3, q4⟩ := bnd_spec h2
    refine PureOp.grow fun g rd A w hview => ?_
    have h3 := rel_lit (hview.op x _ (by simp [ho, Op.operands]) hx)
    have hk := run_boundsC (P := P) (w := w) (A := A) hview (lo := lo) (hi := hi) (fun y hy => by subst hy; simp [ho, Op.operands]) (fun y hy => by subst hy; cases lo <;> simp [ho, Op.operands]) (len := 0) (cap := 0) (a := 0) (b := 0) q1 q3 q2 (by simpa using q4) (Int.le_refl _) (Int.le_refl _) (Int.le_refl _)
    refine ⟨.slice none 0 0, ?_, .lit _⟩
    simp only [execOp, ho, Option.map_none, Instr.sliceAt, Instr.slice, run_underlying hu, h3, hk, sizeOf, typeInfo, program, hie, Sem.run_bind, Sem.run_pure, Sem.run, Result.andThen_ok]
    rfl
  · cases h
def Cfg.isCall (C : Cfg) : Bool := match C.op with
  | some (_, o) => match o.op with
    | .call _ => true
    | _ => false
  | none => false
def Cfg.isSl (C : Cfg) : Bool := match C.op with
  | some (_, o) => match o.op with
    | .slice _ _ _ _ none => true
    | _ => false
  | none => false
theorem TS_capN (hc : C.isCall = true) (h : C.with1 (capNArgs P) = some ()) (hg : C.go1 n = true) (k : TS P K n (C.ret (int .i64 0)) Q) : TS P K n C Q :=
  TS_val _ hg (fun os o ho => grow_capN (by
    simp only [Cfg.isCall, ho] at hc
    split at hc
    · rename_i q; exact ⟨_, q⟩
    · cases hc) (with1_op h ho)) k
theorem TS_slN (hc : C.isSl = true) (h : C.with1 (capNArgs P) = some ()) (hg : C.go1 n = true) (k : TS P K n (C.ret (.c (.lit (.slice none 0 0)))) Q) : TS P K n C Q :=
  TS_val _ hg (fun os o ho => grow_slN (by
    simp only [Cfg.isSl, ho] at hc
    split at hc
    · rename_i q; exact ⟨_, _, _, _, q⟩
    · cases hc) (with1_op h ho)) k
end
end
/-! ## SHADOWS: variables that are never written; windows of arrays at computed places; functions that are handed a struct with a row and the room behind it. -/
section
open Go.RowKit

section
variable {P : Program} {K : Ctx} {n : Nat} {Q : Exit → St → Prop} {C : Cfg} {D : Dr} {s : St} {o : Oper} {α : Type}
/-! ### a variable that is never written -/
def SC.fzv : SC → Option SC
  | .lit v => some (.lit v)
  | .slc s _ n xs => some (.slc s 0 n xs)
  | .ref cs => some (.ref cs)
  | _ => none
def fzvL : List SC → Option (List SC)
  | [] => some []
  | x :: l => match x.fzv, fzvL l with
    | some y, some r => some (y :: r)
    | _, _ => none
theorem fzv_rel {rd : Rd} {g : Env} {u : Value} {x y : SC} (h : CRel rd g u x) (hx : x.fzv = some y) : IRel rd u y := by
  cases x <;> simp only [SC.fzv, reduceCtorEq, Option.some.injEq] at hx
  · subst hx; exact h
  · subst hx; exact h.1
  · subst hx; exact h
theorem fzvL_get : ∀ {l : List SC} {r : List SC}, fzvL l = some r → l.length = r.length ∧ ∀ (i : Nat) (x y : SC), l[i]? = some x → r[i]? = some y → x.fzv = some y
  | [], r, h => by cases h; exact ⟨rfl, fun i x y h1 => by simp at h1⟩
  | x :: l, r, h => by
    simp only [fzvL] at h
    split at h
    · rename_i y r' hy hr
      cases h
      obtain ⟨h1, h2⟩ := fzvL_get hr
      refine ⟨by simp [h1], fun i a b ha hb => ?_⟩
      cases i with
      | zero => cases ha; cases hb; exact hy
      | succ i => exact h2 i a b ha hb
    · cases h
def boxFArgs (s : St) (o : Oper) : Option (List SC) := match o.op with
  | .box _ x => match opd s x with
    | some v => match cellsOf v with
      | some cs => fzvL cs
      | none => none
    | none => none
  | _ => none
theorem grow_boxF {cs : List SC} (h : boxFArgs s o = some cs) : GrowOp P o s (.c (.ref cs)) := by
  unfold boxFArgs at h
  split at h
  rotate_left
  · cases h
  rename_i t x ho
  split at h
  rotate_left
  · cases h
  rename_i v hx
  split at h
  rotate_left
  · cases h
  rename_i cs0 hc
  obtain ⟨hlen, hget⟩ := fzvL_get h
  intro g rd A w hview
  have hr := rel_cells (hview.op x _ (by simp [ho, Op.operands]) hx) hc
  unfold mSafe
  simp only [execOp, ho, Instr.box, newVar, newRow, newObj, Sem.run_bind, Sem.run_pure, Sem.run, Result.andThen_ok]
  refine ⟨Ext.alloc _ _, fun rd' hle hsees => ?_⟩
  have key : ∀ (j : Nat) (y : SC), cs[j]? = some y → ∃ u, (A.eval x).cells[j]? = some u ∧ IRel rd' u y := by
    intro j y hy
    have hj := (List.getElem?_eq_some_iff.1 hy).1
    obtain ⟨x0, hx0⟩ : ∃ x0, cs0[j]? = some x0 := ⟨_, List.getElem?_eq_getElem (by omega)⟩
    obtain ⟨u, h1, h2⟩ := hr.2 j x0 hx0
    exact ⟨u, h1, (fzv_rel h2 (hget j x0 y hx0 hy)).mono hle⟩
  refine .ref w.heap.size 0 cs (fun j => ((A.eval x).cells[j]?).getD undef) (fun j y hy => ?_) (fun j y hy => ?_)
  · obtain ⟨u, h1, _⟩ := key j y hy
    refine hsees _ _ _ (Nat.le_refl _) ?_
    have hc := World.cell?_alloc_at (w := w) (A.eval x).cells t w.heap.size j rfl
    rw [Nat.zero_add]
    refine Eq.trans ?_ (Eq.trans hc ?_)
    · rfl
    · rw [h1]; rfl
  · obtain ⟨u, h1, h2⟩ := key j y hy
    rw [h1]
    exact h2
theorem TS_boxF {cs : List SC} (h : C.with1 boxFArgs = some cs) (hg : C.go1 n = true) (k : TS P K n (C.ret (.c (.ref cs))) Q) : TS P K n C Q :=
  TS_val _ hg (fun _ _ ho => grow_boxF (with1_op h ho)) k
theorem TD_boxF {cs : List SC} (h : D.with1 boxFArgs = some cs) (hg : D.go1 n = true) (k : TD P K n (D.ret (.c (.ref cs))) Q) : TD P K n D Q :=
  TD_val _ hg (fun _ _ ho => grow_boxF (with1D_op h ho)) k
/-! ### a part of an array behind a pointer -/
def slFArgs (P : Program) (k : IntKind) (m : Nat) (s : St) (o : Oper) : Option (List SC × Int × Int) := match o.op with
  | .slice t x lo hi none => match opd s x, P.underlying t with
    | some (.c (.ref cs)), some (.array n e) => match P.info? e, P.underlying e, bnd s 0 lo, bnd s n hi with
      | some ie, some (.int k'), some (_, a), some (_, b) => if ie.size = 1 ∧ n = m ∧ m ≤ cs.length ∧ k' = k then some (cs.take m, a, b) else none
      | _, _, _, _ => none
    | _, _ => none
  | _ => none
theorem arrS_take_drop (_k : IntKind) (m : Nat) (l : List Int) (a b i : Nat) (hb : b ≤ m) : ((((List.range m).map fun i => l.getD i 0).take b).drop a)[i]? = if a + i < b then some (l.getD (a + i) 0) else none := by
  rw [List.getElem?_drop, List.getElem?_take]
  split
  · rw [List.getElem?_map, List.getElem?_range (by omega)]; rfl
  · rfl
theorem grow_slF {k : IntKind} {m : Nat} {l : List Int} {l' : List Int} {a b : Int} (hm : decide (m ≤ 140737488355328) = true) (he : subO (arrL m l) a b = some l') (h : slFArgs P k m s o = some (arrS k m l, a, b)) : GrowOp P o s (.c (.slc 1 0 l'.length (l'.map (ecI k)))) := by
  have hm' := of_decide_eq_true hm
  unfold subO at he
  split at he
  rotate_left
  · cases he
  rename_i hab
  cases he
  obtain ⟨p1, p2, p3⟩ := hab
  have hal : (arrL m l).length = m := by simp [arrL]
  rw [hal] at p3
  unfold slFArgs at h
  split at h
  rotate_left
  · cases h
  rename_i t x lo hi ho
  split at h
  rotate_left
  · cases h
  rename_i cs n1 e hx hu
  split at h
  rotate_left
  · cases h
  rename_i ie k' v1 a' v2 b' hie hue h1 h2
  split at h
  rotate_left
  · cases h
  rename_i hq
  obtain ⟨hsz, rfl, hmc, rfl⟩ := hq
  injection h with h
  simp only [Prod.mk.injEq] at h
  obtain ⟨hcs, rfl, rfl⟩ := h
  obtain ⟨q1, q2⟩ := bnd_spec h1
  obtain ⟨q3, q4⟩ := bnd_spec h2
  refine PureOp.grow fun g rd A w hview => ?_
  have hv := hview.op x _ (by simp [ho, Op.operands]) hx
  have hk := run_bounds (P := P) (w := w) (A := A) hview (lo := lo) (hi := hi) (fun y hy => by subst hy; simp [ho, Op.operands]) (fun y hy => by subst hy; cases lo <;> simp [ho, Op.operands]) false (len := n1) (cap := n1) q1 q3 q2 q4 p1 p2 (by omega) (Nat.le_refl _)
  simp only [VRel, CRel, CRel0] at hv
  generalize hev : A.eval x = v at *
  cases hv with
  | ref b0 o0 _ u hr hu' =>
    have hcell : ∀ i, i < n1 → rd b0 (o0 + i) = some (.int k' (l.getD i 0)) := by
      intro i hi
      have hci : cs[i]? = some (.lit (.int k' (l.getD i 0))) := by
        have : (cs.take n1)[i]? = some (.lit (.int k' (l.getD i 0))) := by rw [hcs, arrS_getI, if_pos hi]
        rw [List.getElem?_take, if_pos hi] at this
        exact this
      have h3 := hu' i _ hci
      have h4 := hr i _ hci
      generalize hz : u i = z at *
      cases h3
      exact h4
    have hlen : (((arrL n1 l).take b'.toNat).drop a'.toNat).length = b'.toNat - a'.toNat := by simp [arrL]; omega
    refine ⟨.slice (if n1 = a'.toNat then some ⟨b0, o0, none⟩ else some ⟨b0, o0 + a'.toNat, none⟩) (b'.toNat - a'.toNat) (n1 - a'.toNat), ?_, ?_⟩
    · simp only [execOp, ho, Option.map_none, Instr.sliceAt, Instr.sureAddr, run_underlying hu, hev, hk, sizeOf, typeInfo, program, hie, Sem.run_bind, Sem.run_pure, Sem.run, Result.andThen_ok, hsz, Nat.mul_one, addr_add]
      split <;> rfl
    · refine ⟨?_, trivial⟩
      by_cases hz : b'.toNat - a'.toNat = 0
      · have h0 : ((arrL n1 l).take b'.toNat).drop a'.toNat = [] := List.eq_nil_of_length_eq_zero (by rw [hlen]; exact hz)
        rw [h0, hz]
        exact .nil _ _ _ (by unfold maxLen; omega)
      · rw [if_neg (by omega), hlen]
        refine .slc b0 (o0 + a'.toNat) _ _ 1 ((((arrL n1 l).take b'.toNat).drop a'.toNat).map (ecI k')) (fun i _ => .int k' (l.getD (a'.toNat + i) 0)) (by rw [List.length_map, hlen]) (by omega) (by unfold maxLen; omega) (fun y hy => ?_) (fun i y j z hy hz' => ?_) (fun i y j z hy hz' => ?_)
        · obtain ⟨y0, _, rfl⟩ := List.mem_map.1 hy
          rfl
        · rw [List.getElem?_map] at hy
          obtain ⟨y0, hy0, rfl⟩ := Option.map_eq_some_iff.1 hy
          rw [arrL, arrS_take_drop k' _ _ _ _ _ (by omega)] at hy0
          split at hy0
          · cases hy0
            rcases j with _ | j
            · rw [show o0 + a'.toNat + i * 1 + 0 = o0 + (a'.toNat + i) by omega]
              exact hcell _ (by omega)
            · simp [ecI] at hz'
          · cases hy0
        · rw [List.getElem?_map] at hy
          obtain ⟨y0, hy0, rfl⟩ := Option.map_eq_some_iff.1 hy
          rw [arrL, arrS_take_drop k' _ _ _ _ _ (by omega)] at hy0
          split at hy0
          · cases hy0
            rcases j with _ | j
            · simp only [ecI, List.getElem?_cons_zero, Option.some.injEq] at hz'
              subst hz'
              exact .lit _
            · simp [ecI] at hz'
          · cases hy0
theorem TS_slF {k : IntKind} {l' : List Int} {a b : Int} (m : Nat) (l : List Int) (hm : decide (m ≤ 140737488355328) = true) (he : subO (arrL m l) a b = some l') (h : C.with1 (slFArgs P k m) = some (arrS k m l, a, b)) (hg : C.go1 n = true) (kk : TS P K n (C.ret (.c (.slc 1 0 l'.length (l'.map (ecI k))))) Q) : TS P K n C Q :=
  TS_val _ hg (fun _ _ ho => grow_slF hm he (with1_op h ho)) kk
theorem TD_slF {k : IntKind} {l' : List Int} {a b : Int} (m : Nat) (l : List Int) (hm : decide (m ≤ 140737488355328) = true) (he : subO (arrL m l) a b = some l') (h : D.with1 (slFArgs P k m) = some (arrS k m l, a, b)) (hg : D.go1 n = true) (kk : TD P K n (D.ret (.c (.slc 1 0 l'.length (l'.map (ecI k))))) Q) : TD P K n D Q :=
  TD_val _ hg (fun _ _ ho => grow_slF hm he (with1D_op h ho)) kk
/-! ### an element of an array behind a pointer, at a computed place -/
def idxFArgs (P : Program) (m : Nat) (s : St) (o : Oper) : Option (List SC × Int) := match o.op with
  | .indexAddr t x y => match opd s x, opd s y, P.underlying t with
    | some (.c (.ref cs)), some (.c (.lit (.int _ i))), some (.array n e) => match P.info? e with
      | some ie => if ie.size = 1 ∧ n = m ∧ m ≤ cs.length then some (cs.take m, i) else none
      | none => none
    | _, _, _ => none
  | _ => none
theorem grow_idxF {k : IntKind} {m : Nat} {l : List Int} {i : Int} (hc : decide ((0 : Int) ≤ i ∧ i < (m : Int)) = true) (h : idxFArgs P m s o = some (arrS k m l, i)) : GrowOp P o s (.c (.ref [.lit (.int k (l.getD i.toNat 0))])) := by
  obtain ⟨h0, h1⟩ := of_decide_eq_true hc
  unfold idxFArgs at h
  split at h
  rotate_left
  · cases h
  rename_i t x y ho
  split at h
  rotate_left
  · cases h
  rename_i cs ki i' n1 e hx hy hu
  split at h
  rotate_left
  · cases h
  rename_i ie hie
  split at h
  rotate_left
  · cases h
  rename_i hq
  obtain ⟨hsz, rfl, hmc⟩ := hq
  injection h with h
  simp only [Prod.mk.injEq] at h
  obtain ⟨hcs, rfl⟩ := h
  refine PureOp.grow fun g rd A w hview => ?_
  have hv := hview.op x _ (by simp [ho, Op.operands]) hx
  have hvy := rel_lit (hview.op y _ (by simp [ho, Op.operands]) hy)
  simp only [VRel, CRel, CRel0] at hv
  generalize hev : A.eval x = v at *
  cases hv with
  | ref b0 o0 _ u hr hu' =>
    have hci : cs[i'.toNat]? = some (.lit (.int k (l.getD i'.toNat 0))) := by
      have : (cs.take n1)[i'.toNat]? = some (.lit (.int k (l.getD i'.toNat 0))) := by rw [hcs, arrS_getI, if_pos (by omega)]
      rw [List.getElem?_take, if_pos (by omega)] at this
      exact this
    refine ⟨.pointer (some ⟨b0, o0 + i'.toNat, none⟩), ?_, .ref b0 (o0 + i'.toNat) _ (fun _ => u i'.toNat) (fun j y hy => ?_) (fun j y hy => ?_)⟩
    · simp [execOp, ho, hvy, hev, Instr.indexAt, asIntOf, run_underlying hu, Instr.sureAddr, h0, h1, sizeOf, typeInfo, hie, hsz, addr_add]
    · rcases j with _ | j
      · exact hr _ _ hci
      · simp at hy
    · rcases j with _ | j
      · simp only [List.getElem?_cons_zero, Option.some.injEq] at hy
        subst hy
        exact hu' _ _ hci
      · simp at hy
theorem TS_idxF {k : IntKind} (m : Nat) (l : List Int) {i : Int} (hc : decide ((0 : Int) ≤ i ∧ i < (m : Int)) = true) (h : C.with1 (idxFArgs P m) = some (arrS k m l, i)) (hg : C.go1 n = true) (kk : TS P K n (C.ret (.c (.ref [.lit (.int k (l.getD i.toNat 0))]))) Q) : TS P K n C Q :=
  TS_val _ hg (fun _ _ ho => grow_idxF hc (with1_op h ho)) kk
theorem TD_idxF {k : IntKind} (m : Nat) (l : List Int) {i : Int} (hc : decide ((0 : Int) ≤ i ∧ i < (m : Int)) = true) (h : D.with1 (idxFArgs P m) = some (arrS k m l, i)) (hg : D.go1 n = true) (kk : TD P K n (D.ret (.c (.ref [.lit (.int k (l.getD i.toNat 0))]))) Q) : TD P K n D Q :=
  TD_val _ hg (fun _ _ ho => grow_idxF hc (with1D_op h ho)) kk
/-! ### copy into a window at a computed place -/
def cpAt (n : Nat) (l : List Int) (a m : Nat) (l2 : List Int) : List Int := (List.range n).map fun i => if a ≤ i ∧ i < a + min m l2.length then l2.getD (i - a) 0 else l.getD i 0
def cpVArgs (P : Program) (s : St) (o : Oper) : Option (Nat × Nat × Nat × List SC × List (List SC) × Cut) := match o.op with
  | .call { callee := .builtin .copy, args := xs, argTypes := ts } => match xs.toList, ts.toList with
    | [x, y], [t, _] => match P.underlying t with
      | some (.slice e') => match P.info? e' with
        | some ie => match opd s x, (opd s y).bind (srcS s 1) with
          | some (.c (.win d off' m')), some (ys, c') => match s.lookB d with
            | some cs => if ie.size = 1 then some (d, off', m', cs, ys, c') else none
            | none => none
          | _, _ => none
        | none => none
      | _ => none
    | _, _ => none
  | _ => none
theorem arrS_split (k : IntKind) (n : Nat) (l : List Int) (a m : Nat) (h : a + m ≤ n) : arrS k n l = arrS k a l ++ arrS k m (l.drop a) ++ arrS k (n - (a + m)) (l.drop (a + m)) := by
  apply List.ext_getElem?
  intro i
  rw [arrS_getI, List.append_assoc, List.getElem?_append, arrS_len, arrS_getI, List.getElem?_append, arrS_len, arrS_getI, arrS_getI]
  have gd : ∀ c j, (l.drop c).getD j 0 = l.getD (c + j) 0 := fun c j => by simp [List.getD_eq_getElem?_getD, List.getElem?_drop]
  by_cases h1 : i < a
  · rw [if_pos h1, if_pos (by omega), if_pos h1]
  · rw [if_neg h1, gd, gd]
    by_cases h2 : i - a < m
    · rw [if_pos (by omega), if_pos h2, if_pos h2, show a + (i - a) = i by omega]
    · rw [if_neg h2]
      by_cases h3 : i < n
      · rw [if_pos h3, if_pos (by omega), show a + m + (i - a - m) = i by omega]
      · rw [if_neg h3, if_neg (by omega)]
theorem upd_cpV {d off n a m : Nat} {k : IntKind} {l l2 : List Int} {pre post : List SC} {c' : Cut} (hpre : decide (pre.length = off) = true) (ham : decide (a + m ≤ n) = true) (h : cpVArgs P s o = some (d, off + a, m, pre ++ (arrS k n l ++ post), l2.map (ecI k), c')) :
    UpdOp P o s d (.box (pre ++ arrS k n l ++ post)) (.box (pre ++ arrS k n (cpAt n l a m (c'.app l2)) ++ post)) (int .i64 (min (c'.app l2).length m : Nat)) := by
  have hpl := of_decide_eq_true hpre
  have ham' := of_decide_eq_true ham
  have hsp := arrS_split k n l a m ham'
  have hw : cpWArgs P (off + a) m s o = some (d, pre ++ arrS k a l, arrS k m (l.drop a), arrS k (n - (a + m)) (l.drop (a + m)) ++ post, l2.map (ecI k), c') := by
    unfold cpVArgs at h
    unfold cpWArgs
    split at h
    rotate_left
    · cases h
    rename_i xs ts ho
    split at h
    rotate_left
    · cases h
    rename_i x y t t' hxs hts
    split at h
    rotate_left
    · cases h
    rename_i e1 hu
    split at h
    rotate_left
    · cases h
    rename_i ie hie
    split at h
    rotate_left
    · cases h
    rename_i d1 off1 m1 ys c1 hx hy
    split at h
    rotate_left
    · cases h
    rename_i cs hl
    split at h
    rotate_left
    · cases h
    rename_i hsz
    injection h with h
    simp only [Prod.mk.injEq] at h
    obtain ⟨rfl, rfl, rfl, rfl, rfl, rfl⟩ := h
    simp only [ho, hxs, hts, hu, hie, hx, hy, hl]
    have e0 : pre ++ (arrS k n l ++ post) = (pre ++ arrS k a l) ++ (arrS k m1 (l.drop a) ++ (arrS k (n - (a + m1)) (l.drop (a + m1)) ++ post)) := by
      rw [hsp]; simp only [List.append_assoc]
    have l1 : (pre ++ arrS k a l).length = off + a := by rw [List.length_append, arrS_len, hpl]
    rw [e0]
    have h1 : ((pre ++ arrS k a l) ++ (arrS k m1 (l.drop a) ++ (arrS k (n - (a + m1)) (l.drop (a + m1)) ++ post))).take (off + a) = pre ++ arrS k a l := by rw [← l1]; exact List.take_left
    have h2 : ((pre ++ arrS k a l) ++ (arrS k m1 (l.drop a) ++ (arrS k (n - (a + m1)) (l.drop (a + m1)) ++ post))).drop (off + a) = arrS k m1 (l.drop a) ++ (arrS k (n - (a + m1)) (l.drop (a + m1)) ++ post) := by rw [← l1]; exact List.drop_left
    have h3 : (arrS k m1 (l.drop a) ++ (arrS k (n - (a + m1)) (l.drop (a + m1)) ++ post)).take m1 = arrS k m1 (l.drop a) := by
      have := List.take_left (l₁ := arrS k m1 (l.drop a)) (l₂ := arrS k (n - (a + m1)) (l.drop (a + m1)) ++ post)
      rwa [arrS_len] at this
    have h4 : ((pre ++ arrS k a l) ++ (arrS k m1 (l.drop a) ++ (arrS k (n - (a + m1)) (l.drop (a + m1)) ++ post))).drop (off + a + m1) = arrS k (n - (a + m1)) (l.drop (a + m1)) ++ post := by
      rw [← List.drop_drop, h2]
      have := List.drop_left (l₁ := arrS k m1 (l.drop a)) (l₂ := arrS k (n - (a + m1)) (l.drop (a + m1)) ++ post)
      rwa [arrS_len] at this
    rw [h1, h2, h3, h4, if_pos ⟨hsz, trivial, trivial, by simp only [List.length_append, arrS_len, hpl]; omega⟩]
  have hu := upd_cpW (off := off + a) (by rw [List.length_append, arrS_len, hpl]; exact decide_eq_true rfl) hw
  have e1 : pre ++ arrS k a l ++ arrS k m (l.drop a) ++ (arrS k (n - (a + m)) (l.drop (a + m)) ++ post) = pre ++ arrS k n l ++ post := by
    rw [hsp]; simp only [List.append_assoc]
  have e2 : pre ++ arrS k a l ++ arrS k m (cpA m (l.drop a) (c'.app l2)) ++ (arrS k (n - (a + m)) (l.drop (a + m)) ++ post) = pre ++ arrS k n (cpAt n l a m (c'.app l2)) ++ post := by
    have hcp : ∀ i, i < n → (cpAt n l a m (c'.app l2)).getD i 0 = if a ≤ i ∧ i < a + min m (c'.app l2).length then (c'.app l2).getD (i - a) 0 else l.getD i 0 := by
      intro i hi
      unfold cpAt
      rw [List.getD_eq_getElem?_getD, List.getElem?_map, List.getElem?_range hi]
      rfl
    have : arrS k n (cpAt n l a m (c'.app l2)) = arrS k a l ++ arrS k m (cpA m (l.drop a) (c'.app l2)) ++ arrS k (n - (a + m)) (l.drop (a + m)) := by
      apply List.ext_getElem?
      intro i
      rw [arrS_getI, List.append_assoc, List.getElem?_append, arrS_len, arrS_getI, List.getElem?_append, arrS_len, arrS_getI, arrS_getI]
      have gd : ∀ c j, (l.drop c).getD j 0 = l.getD (c + j) 0 := fun c j => by simp [List.getD_eq_getElem?_getD, List.getElem?_drop]
      by_cases h1 : i < a
      · rw [if_pos h1, if_pos (by omega), if_pos h1, hcp i (by omega), if_neg (by omega)]
      · rw [if_neg h1, gd]
        by_cases h2 : i - a < m
        · rw [if_pos (by omega), if_pos h2, if_pos h2, cpA_get _ _ _ _ h2, gd, hcp i (by omega), show a + (i - a) = i by omega]
          by_cases h4 : i - a < (c'.app l2).length
          · rw [if_pos h4, if_pos (by omega)]
          · rw [if_neg h4, if_neg (by omega)]
        · rw [if_neg h2]
          by_cases h3 : i < n
          · rw [if_pos h3, if_pos (by omega), hcp i h3, if_neg (by omega), show a + m + (i - a - m) = i by omega]
          · rw [if_neg h3, if_neg (by omega)]
    rw [this]; simp only [List.append_assoc]
  rw [e1, e2] at hu
  exact hu
theorem TS_cpV {k : IntKind} (d off nn a m : Nat) (l l2 : List Int) (c' : Cut) {pre post : List SC} (hpre : decide (pre.length = off) = true) (ham : decide (a + m ≤ nn) = true) (h : C.with1 (cpVArgs P) = some (d, off + a, m, pre ++ (arrS k nn l ++ post), l2.map (ecI k), c')) (hg : C.go1 n = true)
    (kk : TS P K n (C.next ((C.st.setR d (.box (pre ++ arrS k nn (cpAt nn l a m (c'.app l2)) ++ post))).put C.dst (int .i64 (min (c'.app l2).length m : Nat)))) Q) : TS P K n C Q :=
  TS_upd (fun _os _o ho => upd_cpV hpre ham (with1_op h ho)) hg kk
theorem TD_cpV {k : IntKind} (d off nn a m : Nat) (l l2 : List Int) (c' : Cut) {pre post : List SC} (hpre : decide (pre.length = off) = true) (ham : decide (a + m ≤ nn) = true) (h : D.with1 (cpVArgs P) = some (d, off + a, m, pre ++ (arrS k nn l ++ post), l2.map (ecI k), c')) (hg : D.go1 n = true)
    (kk : TD P K n (D.push ⟨D.need, D.dst, int .i64 (min (c'.app l2).length m : Nat), some (d, .box (pre ++ arrS k nn (cpAt nn l a m (c'.app l2)) ++ post)), false⟩) Q) : TD P K n D Q :=
  TD_upd (fun _os _o ho => upd_cpV hpre ham (with1D_op h ho)) hg kk
end
end
/-! ## SHADOWS: a function that is handed a struct with a row and the room behind it. -/
section
open Go.RowKit

theorem con_ofGA {P : Program} {f : FuncId} {fn : Func} {c : Code} {args : List SV} {el sz N N' : Nat} {xs0 : List (List SC)} {r : SV} (kss : List (List Nat)) (n i j0 : Nat) (cs0 : List SC) (hf : P.funcs[f]? = some fn) (hb : fn.body = some c) (hn : fn.ntmps = n) (hl : decide (args.length ≤ n ∧ n ≤ 2000000) = true) (hi : args[i]? = some (.agg cs0)) (hj0 : cs0[j0]? = some (.slc sz 1000003 N xs0))
    (ht : ∀ K, TS P K n (.mk [.code c] .normal ⟨initT 0 args ++ ghostOf sz N xs0, [(1000001, .spare el sz N)]⟩) (retG P fn kss el sz N r N')) : ConG P f args el sz N r N' := by
  intro rd g w us hrd hus hargs hhold hnot
  obtain ⟨hl', hfew⟩ := of_decide_eq_true hl
  have hvN := vlen_spare hhold
  let h : Hp := [(1000001, .spare el sz N)]
  let K : Ctx := ⟨w, InFoot g h, rd, g.pos, fun j => if j = 0 then some (g.tk 1000001).2 else none, fun b o v hv => ⟨hrd b o v hv, fun x => by rw [hnot b o (infoot_one.1 x)] at hv; cases hv⟩⟩
  have hrdle : rd.le (rdOf K g h w) := by
    intro b o v hv
    unfold rdOf
    rw [if_neg (fun x => by rw [hnot b o (infoot_one.1 x)] at hv; cases hv), if_pos ⟨World.block_lt_of_cell? w _ (hrd b o v hv), fun x => by rw [hnot b o (infoot_one.1 x)] at hv; cases hv⟩]
    exact hv
  have hlk : ∀ d x, look h d = some x → d = 1000001 ∧ x = .spare el sz N := by
    intro d x hx
    rw [look_cons] at hx
    split at hx
    · rename_i hd; cases hx; exact ⟨hd.symm, rfl⟩
    · simp [look] at hx
  have hgh : VRel (rdOf K g h w) g (g.tk 1000001).2 (.c (.slc sz 1000003 N xs0)) := by
    obtain ⟨u0, q1, vs0, _, q0⟩ := hargs i _ hi
    obtain ⟨u, _, q2⟩ := q0.2 j0 _ hj0
    have q3 := q2.mono hrdle
    obtain ⟨q4, q5⟩ := q3
    have hu : u = (g.tk 1000001).2 := q5.2 hvN.symm
    rw [← hu]
    exact q2.mono hrdle
  have hR : RG K g n { tmps := us ++ Array.replicate (fn.ntmps - us.size) undef, defers := [] } w ⟨initT 0 args ++ ghostOf sz N xs0, h⟩ := by
    refine ⟨rfl, by simp; omega, hfew, ⟨Keep.refl _ _, fun d x hx => ?_, fun b o x _ => x, fun d d' r r' b o hne h1 h2 => absurd ((hlk d r h1).1.trans (hlk d' r' h2).1.symm) hne, fun d cs _ hx => (by cases (hlk d _ hx).2), fun d r hd _ b o hf => .inr ⟨d, r, hd, hf⟩⟩, fun t v hv => ?_⟩
    · obtain ⟨rfl, rfl⟩ := hlk d x hx
      exact hhold.mono hrdle
    · rcases look_append _ _ _ _ hv with hv1 | hv1
      · obtain ⟨_, h2⟩ := look_initT args 0 t v hv1
        obtain ⟨u, h3, h4⟩ := hargs (t - 0) v h2
        simp only [Nat.sub_zero] at h3
        refine ⟨u, ?_, h4.mono hrdle⟩
        have htn := (Array.getElem?_eq_some_iff.1 h3).1
        rw [slotAt, if_pos (by omega)]
        rw [Array.getElem?_append_left (Array.getElem?_eq_some_iff.1 h3).1]
        exact h3
      · simp only [ghostOf, look_cons] at hv1
        split at hv1
        · rename_i ht
          obtain rfl := Option.some.inj hv1
          refine ⟨_, ?_, hgh⟩
          rw [← ht, slotAt, if_neg (by omega)]
          simp [K]
        · simp [look] at hv1
  refine calls_of_wp hf hb (wp_mono (ht K _ w ⟨g, hR⟩) fun e a' w' hq => ?_)
  obtain ⟨s', ⟨g', r'⟩, q⟩ := hq
  have fin : ((∃ xs, resL P s' kss fn.results.toList = some xs ∧ resV xs = some r) ∧ look s'.hp 1000001 = some (.spare el sz N') ∧ ∃ sz1 xs, look s'.tmps 2000000 = some (.c (.slc sz1 1000003 N xs))) → a'.defers = [] ∧ ∃ v, (results fn a'.tmps).run P w' = .ok v w' ∧ ∃ u g', Ending.returned v = .returned u ∧ Keep w (Foot g 1000001 (.spare el sz N)) w' ∧ (∀ b o, Foot g' 1000001 (.spare el sz N') b o → Foot g 1000001 (.spare el sz N) b o ∨ w.heap.size ≤ b) ∧ ((g'.tk 1000001).2 = (g.tk 1000001).2 ∨ vlen (g.tk 1000001).2 < vlen (g'.tk 1000001).2) ∧
      ∀ rd', rd.le rd' → SeesX w (Foot g 1000001 (.spare el sz N)) rd' w' (Foot g' 1000001 (.spare el sz N')) → VRel rd' g' u r ∧ Holds rd' g' w' 1000001 (.spare el sz N') := by
    rintro ⟨⟨xs, h1, h2⟩, h3, sz1, xs1, h6⟩
    obtain ⟨u, h4, h5⟩ := run_results r'.view h1 h2
    have hin : ∀ b o, Foot g' 1000001 (.spare el sz N') b o → InFoot g' s'.hp b o := fun b o x => ⟨_, _, h3, x⟩
    obtain ⟨V, q1, q2⟩ := r'.tmps _ _ h6
    have hV : V = (g.tk 1000001).2 := by
      rw [slotAt, if_neg (by omega)] at q1
      simpa [K] using q1.symm
    obtain ⟨_, q4⟩ := q2
    have q5 : N ≤ vlen (g'.tk 1000001).2 := q4.1
    have q6 : N = vlen (g'.tk 1000001).2 → V = (g'.tk 1000001).2 := q4.2
    refine ⟨r'.defers, u, h4, u, g', rfl, r'.hg.keep.weak (fun b o x => infoot_one.1 x), ?_, ?_, ?_⟩
    · intro b o hx
      rcases Nat.lt_or_ge b w.heap.size with hb' | hb'
      · exact .inl (infoot_one.1 (r'.hg.may b o (hin b o hx) hb'))
      · exact .inr hb'
    · by_cases hN : N = vlen (g'.tk 1000001).2
      · left; rw [← hV]; exact (q6 hN).symm
      · right; rw [hvN]; omega
    · intro rd' hle hs
      have hle' : (rdOf K g' s'.hp w').le rd' := by
        intro b o v hv
        have hcell := rdOf_le g' s'.hp r'.hg.keep b o v hv
        unfold rdOf at hv
        split at hv
        · cases hv
        · rename_i hx
          split at hv
          · exact hle b o v hv
          · rename_i hbb
            refine hs b o v ?_ (fun q => hx (hin b o q)) hcell
            rcases Nat.lt_or_ge b w.heap.size with h6 | h6
            · exact .inr (infoot_one.1 (Classical.byContradiction fun h7 => hbb ⟨h6, h7⟩))
            · exact .inl h6
      exact ⟨h5.mono hle', (r'.hg.holds _ _ h3).mono hle'⟩
  cases e <;> simp only [QS, retG] at q <;> simp only [bodyPost]
  case normal => exact fin q
  case ret => exact fin q
end
/-! ## SHADOWS: a made slice of zeros appended to nil. -/
section
open Go.RowKit

section
variable {P : Program} {K : Ctx} {n : Nat} {Q : Exit → St → Prop} {C : Cfg} {D : Dr} {s : St} {o : Oper} {α : Type}
def appNZArgs (P : Program) (s : St) (o : Oper) : Option (Nat × Nat × Nat × List SC × Int) := match o.op with
  | .call { callee := .builtin .append, args := xs, argTypes := ts } => match xs.toList, ts.toList with
    | [x, y], [t, t'] => match P.underlying t, P.underlying t' with
      | some (.slice e), some (.int _) => match P.info? e with
        | some ie => match ie.zero, opd s x, opd s y with
          | some z, some (.c (.lit (.slice none 0 0))), some (.c (.lit (.int _ m))) => if z.cells.size = ie.size ∧ 0 < ie.size then some (e, ie.size, ie.bytes, z.cells.toList.map SC.lit, m) else none
          | _, _, _ => none
        | none => none
      | _, _ => none
    | _, _ => none
  | _ => none
theorem own_appNZ {e sz by_ : Nat} (f : α → List SC) (z0 : α) (ks : List Nat) {cs : List SC} {m : Int} {l' : List α} (he : appZO by_ ([] : List α) z0 m = some l') (h : appNZArgs P s o = some (e, sz, by_, cs, m)) (hf : castL ks cs = f z0) : OwnOp P o s e sz (l'.map f) := by
  unfold appNZArgs at h
  split at h
  rotate_left
  · cases h
  rename_i xs ts ho
  split at h
  rotate_left
  · cases h
  rename_i x y t t' hxs hts
  have hxs' : xs = #[x, y] := by rw [← Array.toArray_toList (xs := xs), hxs]
  have hts' : ts = #[t, t'] := by rw [← Array.toArray_toList (xs := ts), hts]
  subst hxs'
  subst hts'
  split at h
  rotate_left
  · cases h
  rename_i e1 kn hu hu'
  split at h
  rotate_left
  · cases h
  rename_i ie hi
  split at h
  rotate_left
  · cases h
  rename_i z kq m1 hz hx hy
  split at h
  rotate_left
  · cases h
  rename_i hq
  obtain ⟨hzc, hs0⟩ := hq
  cases h
  simp only [appZO] at he
  split at he
  rotate_left
  · cases he
  rename_i hm0
  obtain ⟨M, rfl⟩ : ∃ M : Nat, m = (M : Int) := ⟨m.toNat, by omega⟩
  rw [Int.toNat_natCast] at he
  simp only [appO, List.nil_append] at he
  split at he
  rotate_left
  · cases he
  rename_i hb
  cases he
  simp only [List.length_nil, Nat.zero_add, List.length_replicate] at hb
  intro g rd a w hview
  have hvx := rel_lit (hview.op x _ (by simp [ho, Op.operands, Call.operands]) hx)
  have hvy := rel_lit (hview.op y _ (by simp [ho, Op.operands, Call.operands]) hy)
  simp only [execOp, ho, resolve, invoke, builtin, Sem.run_bind, Sem.run_pure, Result.andThen_ok, List.map_toArray, List.map_cons, List.map_nil]
  rw [hvx, hvy]
  by_cases hM : M = 0
  · subst hM
    have hr : (Builtin.append_ #[t, t'] o.type #[.slice none 0 0, .int kq ((0 : Nat) : Int)]).run P w = .ok (.slice none 0 0) w := by
      have hw0 : IntKind.i64.wrap 0 = 0 := rfl
      simp [Builtin.append_, run_underlying hu, run_underlying hu', sizeOf, typeInfo, hi, asInt, asIntOf, hw0]
    rw [hr]
    simp only [Result.andThen_ok, List.replicate_zero, List.map_nil]
    exact ⟨_, _, [], rfl, Ext.refl w, World.ownsRow_nil w 0 e ie.size, by simp [Value.ownBlock], by simp, by simp⟩
  have hpos : 0 < M := Nat.pos_of_ne_zero hM
  have hr := Go.Lib.run_append_nil_zeros (P := P) w t t' o.type e ie z kq kn hu hu' hi hz M hpos hs0 (by omega) (by omega)
  rw [hr]
  simp only [Result.andThen_ok]
  have hge := grownCap_ge w M 0 e
  have hcm := grownCap_le_maxLen w M 0 e (by unfold maxLen; omega)
  have hzl : (Builtin.zeroCells z.cells M).toList.length = M * ie.size := by simp [Builtin.zeroCells, hzc]
  refine ⟨_, _, (Builtin.zeroCells z.cells M).toList, rfl, (Ext.drew w).trans (Ext.alloc _ _), ⟨by rw [hzl, List.length_map, List.length_replicate], .inr ⟨w.heap.size, grownCap w M 0 e, _, by rw [List.length_map, List.length_replicate], Nat.zero_le _, heap_alloc_new w.drew _, by rw [List.length_map, List.length_replicate]; exact hge, hcm, ?_, ?_⟩⟩, fun b hb' => ?_, zeroCells_row M f z0 ks hzc hf⟩
  · simp only [Array.size_append, size_zeroCells, hzc, ← Nat.add_mul]
    congr 1
    omega
  · rw [List.length_map, List.length_replicate, Array.toList_append, ← hzl]
    exact List.take_left
  · simp only [Value.ownBlock, Option.some.injEq] at hb'; omega
theorem TS_appNZT (d e sz : Nat) {by_ : Nat} (f : α → List SC) (z0 : α) (ks : List Nat) {cs : List SC} {m : Int} {l' : List α} (he : appZO by_ ([] : List α) z0 m = some l') (hf : castL ks cs = f z0) (h : C.with1 (appNZArgs P) = some (e, sz, by_, cs, m)) (hg : C.okNew n d = true) (kk : TS P K n (C.next ((C.st.setR d (.spare e sz (l'.length))).put (some d) (.c (.slc sz (d + 2) (l'.length) (l'.map f))))) Q) : TS P K n C Q := by
  refine TS_ownT (e := e) (sz := sz) (xs := l'.map f) d (fun os o ho => own_appNZ f z0 ks he (with1_op h ho) hf) hg ?_
  rw [List.length_map]
  exact kk
theorem TS_appNZR (d e sz : Nat) {by_ : Nat} (f : α → List SC) (z0 : α) (ks : List Nat) {cs : List SC} {m : Int} {l' : List α} (he : appZO by_ ([] : List α) z0 m = some l') (hf : castL ks cs = f z0) (h : C.with1 (appNZArgs P) = some (e, sz, by_, cs, m)) (hg : C.okNew n d = true) (kk : TS P K n (C.next ((C.st.setR d (.row e sz (l'.length) (l'.map f))).put (some d) (.c (.own d)))) Q) : TS P K n C Q := by
  refine TS_ownR (e := e) (sz := sz) (xs := l'.map f) d (fun os o ho => own_appNZ f z0 ks he (with1_op h ho) hf) hg ?_
  rw [List.length_map]
  exact kk
theorem TD_appNZT (d e sz : Nat) {by_ : Nat} (f : α → List SC) (z0 : α) (ks : List Nat) {cs : List SC} {m : Int} {l' : List α} (he : appZO by_ ([] : List α) z0 m = some l') (hf : castL ks cs = f z0) (h : D.with1 (appNZArgs P) = some (e, sz, by_, cs, m)) (hg : D.okNew n d = true) (kk : TD P K n (D.push ⟨D.need, some d, .c (.slc sz (d + 2) (l'.length) (l'.map f)), some (d, .spare e sz (l'.length)), true⟩) Q) : TD P K n D Q := by
  refine TD_ownT (e := e) (sz := sz) (xs := l'.map f) d (fun os o ho => own_appNZ f z0 ks he (with1D_op h ho) hf) hg ?_
  rw [List.length_map]
  exact kk
theorem TD_appNZR (d e sz : Nat) {by_ : Nat} (f : α → List SC) (z0 : α) (ks : List Nat) {cs : List SC} {m : Int} {l' : List α} (he : appZO by_ ([] : List α) z0 m = some l') (hf : castL ks cs = f z0) (h : D.with1 (appNZArgs P) = some (e, sz, by_, cs, m)) (hg : D.okNew n d = true) (kk : TD P K n (D.push ⟨D.need, some d, .c (.own d), some (d, .row e sz (l'.length) (l'.map f)), true⟩) Q) : TD P K n D Q := by
  refine TD_ownR (e := e) (sz := sz) (xs := l'.map f) d (fun os o ho => own_appNZ f z0 ks he (with1D_op h ho) hf) hg ?_
  rw [List.length_map]
  exact kk
def nilRB (s : St) (b j d e sz : Nat) : Option St := match s.lookB b with
  | some cs => match cs[j]? with
    | some (.lit (.slice none 0 0)) => if decide (d < 1000000) && s.noname d none && b != d then some ((s.setR d (.row e sz 0 [])).setR b (.box (cs.set j (.own d)))) else none
    | _ => none
  | none => none
theorem R.nilRB {a : Act} {w : World} {s s' : St} (h : R K n a w s) {b j d e sz : Nat} (hs : nilRB s b j d e sz = some s') : R K n a w s' := by
  obtain ⟨g, h⟩ := h
  unfold Go.Proofs.Ytohfnlkjdjmipaa.nilRB at hs
  split at hs
  · rename_i cs hl
    split at hs
    · rename_i hj
      split at hs
      · rename_i hq
        simp only [Bool.and_eq_true, decide_eq_true_eq, bne_iff_ne] at hq
        cases hs
        have h1 := h.nilRow d e sz hq.1.1 (noname_spec hq.1.2)
        refine ⟨_, h1.recastBox (b := b) (cs := cs) (by simp only [St.setR, look_setL]; rw [if_neg (Ne.symm hq.2)]; exact lookB_some hl) (by simp) (fun i x y hx hy u hu => ?_)⟩
        rw [List.getElem?_set] at hy
        split at hy
        · rename_i hij; subst hij
          split at hy
          · cases hy
            rw [hj] at hx
            cases hx
            have : u = .slice none 0 0 := rel_lit (g := g.setTk d (.slice none 0 0, undef) (0, 0)) hu
            subst this
            exact ⟨by simp [Env.setTk], none, 0, 0, by simp [Env.setTk]⟩
          · cases hy
        · rw [hx] at hy; cases hy; exact hu
      · cases hs
    · cases hs
  · cases hs
theorem TS_nilRB (b j d e sz : Nat) (he : C.pre = true) (k : TS P K n (C.st2 (nilRB C.st b j d e sz)) Q) : TS P K n C Q := TS_st2 (fun _ _ _ hs r => r.nilRB hs) he k
end
end
end Go.Proofs.Ytohfnlkjdjmipaa
