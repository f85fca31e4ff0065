/-
  SHADOWS, second make: operations that make rows: append to nil, slices written out, make.
-/
import Derived.Test.YtohfnlkjdjmipaaV13
import Derived.Laws.OwnMore
namespace Go.Proofs.Ytohfnlkjdjmipaa
open Go.RowKit

section
variable {P : Program} {o : Oper} {s : St} {α : Type}
/-! ### append to nil -/
def appNArgs (P : Program) (s : St) (o : Oper) : Option (Nat × Nat × Nat × List (List SC) × Cut) := match o.op with
  | .call { callee := .builtin .append, args := xs, argTypes := ts } => match xs.toList, ts.toList with
    | [x, y], [t, t'] => match P.underlying t with
      | some (.slice e) => match P.info? e with
        | some ie => match opd s x, (opd s y).bind (srcS s ie.size) with
          | some (.c (.lit (.slice none 0 0))), some (b, c) => if t = t' ∧ ie.zero.map (·.cells.size) = some ie.size ∧ 0 < ie.size then some (e, ie.size, ie.bytes, b, c) else none
          | _, _ => none
        | none => none
      | _ => none
    | _, _ => none
  | _ => none
theorem own_appN {e sz by_ : Nat} (f : α → List SC) (_hone : ∀ x, (f x).all SC.one = true) {l2 l' : List α} {c : Cut} (he : appO by_ ([] : List α) (c.app l2) = some l') (h : appNArgs P s o = some (e, sz, by_, l2.map f, c)) : OwnOp P o s e sz (l'.map f) := by
  unfold appNArgs at h
  split at h
  rotate_left
  · cases h
  rename_i xs ts ho
  split at h
  rotate_left
  · cases h
  rename_i x y t t' hxs hts
  have hxs' : xs = #[x, y] := by rw [← Array.toArray_toList (xs := xs), hxs]
  have hts' : ts = #[t, t'] := by rw [← Array.toArray_toList (xs := ts), hts]
  subst hxs'
  subst hts'
  split at h
  rotate_left
  · cases h
  rename_i e1 hu
  split at h
  rotate_left
  · cases h
  rename_i ie hi
  split at h
  rotate_left
  · cases h
  rename_i b1 c1 hx hy
  split at h
  rotate_left
  · cases h
  rename_i hq
  obtain ⟨rfl, hz, hs0⟩ := hq
  cases h
  obtain ⟨z, hz, hzc⟩ := Option.map_eq_some_iff.1 hz
  simp only [appO] at he
  split at he
  rotate_left
  · cases he
  rename_i hb
  cases he
  intro g rd a w hview
  obtain ⟨vy, hy1, hy2⟩ := Option.bind_eq_some_iff.1 hy
  have hvx := rel_lit (hview.op x _ (by simp [ho, Op.operands, Call.operands]) hx)
  have hsrc := srcS_rel hy2 hview (hview.op y _ (by simp [ho, Op.operands, Call.operands]) hy1)
  rw [Cut.map] at hsrc
  simp only [execOp, ho, resolve, invoke, builtin, Sem.run_bind, Sem.run_pure, Result.andThen_ok, List.map_toArray, List.map_cons, List.map_nil]
  rw [hvx]
  generalize hvy : a.eval y = uy at *
  obtain ⟨ay, cy, vals, rfl, hlv, hrow, hwhere, _⟩ := hsrc
  rw [List.length_map] at hlv ⊢
  generalize hl2' : c.app l2 = l2' at *
  simp only [List.nil_append, List.length_nil, Nat.zero_add] at hb ⊢
  by_cases hl2 : l2' = []
  · subst hl2
    simp only [List.length_nil, List.map_nil]
    rw [run_append_zero t o.type e ie hu hi none ay 0 0 cy (Nat.le_refl _)]
    simp only [Result.andThen_ok]
    exact ⟨_, _, [], rfl, Ext.refl w, World.ownsRow_nil w 0 e ie.size, by simp [Value.ownBlock], by simp, by simp⟩
  have hpos : 0 < l2'.length := List.length_pos_iff.2 hl2
  obtain ⟨ad, rfl, hcells⟩ : ∃ ad, ay = some ad ∧ ∀ j v, vals[j]? = some v → w.cell? (ad.add j) = some v := by
    rcases hwhere with h0 | h0
    · exact absurd (List.map_eq_nil_iff.1 h0) hl2
    · exact h0
  have hr := run_append_nil (P := P) w t o.type e ie z hu hi hz ad l2'.length cy vals hlv hcells hpos (by omega) (by omega)
  rw [hr]
  simp only [Result.andThen_ok]
  have hge := grownCap_ge w l2'.length 0 e
  have hcm := grownCap_le_maxLen w l2'.length 0 e (by unfold maxLen; omega)
  refine ⟨_, _, vals, rfl, (Ext.drew w).trans (Ext.alloc _ _), ⟨by rw [hlv, List.length_map], .inr ⟨w.heap.size, grownCap w l2'.length 0 e, _, by rw [List.length_map], Nat.zero_le _, heap_alloc_new w.drew _, by rw [List.length_map]; exact hge, hcm, ?_, ?_⟩⟩, fun b hb' => ?_, hrow⟩
  · simp only [Array.size_append, List.size_toArray, size_zeroCells, hzc, hlv, ← Nat.add_mul]
    congr 1
    omega
  · rw [List.length_map, Array.toList_append, List.toList_toArray, ← hlv]
    exact List.take_left
  · simp only [Value.ownBlock, Option.some.injEq] at hb'; omega

/-! ### slices written out -/
def litRArgs (P : Program) (ks : List Nat) (s : St) (o : Oper) : Option (Nat × Nat × List (List SC)) := match o.op with
  | .buildSlice t len parts => match P.underlying t with
    | some (.slice e) => match P.info? e with
      | some ie => if len = 0 then (if parts.size = 0 then some (e, ie.size, []) else none) else if decide (0 < len * ie.size ∧ len * ie.size ≤ 16777216) && ie.zero.isSome then match buildL P s e len ks parts.toList with
          | some xs => some (e, ie.size, xs)
          | none => none
        else none
      | none => none
    | _ => none
  | _ => none
theorem own_litS {e sz : Nat} {xs : List (List SC)} {ks : List Nat} (h : litRArgs P ks s o = some (e, sz, xs)) : OwnOp P o s e sz xs := by
  unfold litRArgs at h
  split at h
  rotate_left
  · cases h
  rename_i t len parts ho
  split at h
  rotate_left
  · cases h
  rename_i e1 hu
  split at h
  rotate_left
  · cases h
  rename_i ie hie
  split at h
  · rename_i hl0
    subst hl0
    split at h
    rotate_left
    · cases h
    rename_i hp0
    cases h
    have hp : parts = #[] := Array.eq_empty_of_size_eq_zero hp0
    subst hp
    intro g rd a w hview
    have hrun : (Instr.buildSlice t 0 #[]).run P w = .ok (.slice (some ⟨w.heap.size, 0, none⟩) 0 0) (w.alloc (.cells #[] e)) := by
      simp [Instr.buildSlice, run_underlying hu, sizeOf, typeInfo, hie, Instr.fill, newRow, newObj, Sem.run_bind, Sem.run, program]
      rw [show Array.range 0 = #[] from Array.eq_empty_of_size_eq_zero (by simp), Array.map_empty]
    simp only [execOp, ho, Sem.run_bind, Array.map_empty, hrun, Result.andThen_ok, Sem.run_pure]
    exact ⟨_, _, [], rfl, Ext.alloc _ _, ⟨by simp, .inr ⟨w.heap.size, 0, #[], rfl, Nat.zero_le _, heap_alloc_new w _, Nat.le_refl _, by simp [maxLen], by simp, by simp⟩⟩, fun b hb => by simp only [Value.ownBlock, Option.some.injEq] at hb; omega, by simp, by simp⟩
  split at h
  rotate_left
  · cases h
  rename_i hpos
  simp only [Bool.and_eq_true, decide_eq_true_eq] at hpos
  obtain ⟨hpos', hz'⟩ := hpos
  split at h
  rotate_left
  · cases h
  rename_i xs' hb
  cases h
  intro g rd a w hview
  unfold buildL at hb
  rw [hie] at hb
  split at hb
  rotate_left
  · cases hb
  rename_i ie' ps hie' hps
  cases hie'
  split at hb
  rotate_left
  · cases hb
  rename_i z hz
  split at hb
  rotate_left
  · cases hb
  rename_i cs hcs
  split at hb
  rotate_left
  · cases hb
  rename_i cs' hcs'
  cases hb
  obtain ⟨l1, l2⟩ := parts_rel hview hps (fun i p hp => by rw [ho]; simp only [Op.operands]; exact parts_mem hp)
  obtain ⟨r, hr1, hr2⟩ := fill_rel _ ps _ _ cs l1 l2 (lits_rel rd g _) hcs
  have hrun := run_buildSlice (P := P) w t e len _ r ie z hu hie hz (by omega) (by omega) hr1
  simp only [execOp, ho, Sem.run_bind, hrun, Result.andThen_ok, Sem.run_pure]
  obtain ⟨h5, h6⟩ := immL_get cs cs' hcs'
  have hrs : r.size = len * ie.size := by
    have hfl : ∀ (ps : List (Nat × Value)) (c c' : Array Value), Instr.fill (fun i => some (i * ie.size, ie.size)) c ps = some c' → c'.size = c.size := by
      intro ps
      induction ps with
      | nil => intro c c' hc; cases hc; rfl
      | cons p ps ih =>
        intro c c' hc
        obtain ⟨j, v⟩ := p
        simp only [Instr.fill] at hc
        split at hc
        · cases hc
        · have := ih _ _ hc
          rw [this]
          have e' : Array.foldl (fun cs (x : Value × Nat) => match x with | (c, j') => cs.setIfInBounds (j * ie.size + j') c) c v.cells.zipIdx = (v.cells.toList.zipIdx 0).foldl (fun cs (p : Value × Nat) => cs.setIfInBounds (j * ie.size + p.2) p.1) c := by
            rw [← Array.foldl_toList, Array.toList_zipIdx]
          have e2 : Array.foldl (fun cs (x : Value × Nat) => cs.setIfInBounds (j * ie.size + x.2) x.1) c v.cells.zipIdx = (v.cells.toList.zipIdx 0).foldl (fun cs (p : Value × Nat) => cs.setIfInBounds (j * ie.size + p.2) p.1) c := e'
          first
            | rw [e']
            | rw [e2]
          exact (foldl_set (j * ie.size) v.cells.toList 0 c).1
    rw [hfl _ _ _ hr1]
    simp
  have hcl : cs'.length = len * ie.size := by rw [← h5, ← hr2.1, hrs]
  have hlen : ((chunks ie.size len cs').map (castL ks)).length = len := by rw [List.length_map, chunks_length]
  refine ⟨_, _, r.toList, rfl, Ext.alloc _ _, ⟨by rw [hlen, Array.length_toList, hrs], .inr ⟨w.heap.size, len, r, by rw [hlen], Nat.zero_le _, heap_alloc_new w _, by rw [hlen]; exact Nat.le_refl _, ?_, hrs, ?_⟩⟩, fun b hb' => by simp only [Value.ownBlock, Option.some.injEq] at hb'; omega, ⟨fun x hx => ?_, fun i x j y hx hy => ?_⟩⟩
  · unfold maxLen
    have : len ≤ len * ie.size := Nat.le_mul_of_pos_right _ (Nat.pos_of_ne_zero (fun h0 => by rw [h0] at hpos'; simp at hpos'))
    omega
  · rw [hlen, ← hrs, ← Array.length_toList, List.take_length]
  · obtain ⟨x0, hx0, rfl⟩ := List.mem_map.1 hx
    obtain ⟨i, hi⟩ := List.getElem?_of_mem hx0
    rw [castL_length]
    exact (chunks_get ie.size len cs' i x0 (by omega) hi).1
  · rw [List.getElem?_map] at hx
    obtain ⟨x0, hx0, rfl⟩ := Option.map_eq_some_iff.1 hx
    obtain ⟨k, y0, hy0, rfl⟩ := castL_get ks x0 j y hy
    have h7 := (chunks_get ie.size len cs' i x0 (by omega) hx0).2 j y0 hy0
    obtain ⟨y1, h8, h9⟩ := h6 _ y0 h7
    obtain ⟨u, h10, h11⟩ := hr2.2 _ y1 h8
    exact ⟨u, by simpa using h10, cast1_imm k (imm_rel h11 h9)⟩

/-! ### make -/
theorem _root_.Nat.mul_add_mod_of_lt' {i s j : Nat} (h : j < s) : (i * s + j) % s = j := by rw [Nat.mul_comm, Nat.mul_add_mod, Nat.mod_eq_of_lt h]
def mkO (by_ : Nat) (l c : Int) : Option Nat := if 0 ≤ l ∧ l ≤ c ∧ (by_ : Int) * c ≤ 281474976710656 ∧ c ≤ 140737488355328 then some l.toNat else none
def makeArgs (P : Program) (s : St) (o : Oper) : Option (Nat × Nat × Nat × List SC × Int × Int) := match o.op with
  | .makeSlice t x y => match P.underlying t, opd s x, opd s y with
    | some (.slice e), some (.c (.lit (.int _ l))), some (.c (.lit (.int _ c))) => match P.info? e with
      | some ie => match ie.zero with
        | some z => if z.cells.size = ie.size ∧ 0 < ie.size then some (e, ie.size, ie.bytes, z.cells.toList.map SC.lit, l, c) else none
        | none => none
      | none => none
    | _, _, _ => none
  | _ => none
theorem own_make {e sz by_ : Nat} (f : α → List SC) (z0 : α) (ks : List Nat) {cs : List SC} {l c : Int} {m : Nat} (he : mkO by_ l c = some m) (h : makeArgs P s o = some (e, sz, by_, cs, l, c)) (hf : castL ks cs = f z0) : OwnOp P o s e sz ((List.replicate m z0).map f) := by
  unfold makeArgs at h
  split at h
  rotate_left
  · cases h
  rename_i t x y ho
  split at h
  rotate_left
  · cases h
  rename_i e1 kl l1 kc c1 hu hx hy
  split at h
  rotate_left
  · cases h
  rename_i ie hie
  split at h
  rotate_left
  · cases h
  rename_i z hz
  split at h
  rotate_left
  · cases h
  rename_i hq
  cases h
  obtain ⟨hzs, hs0⟩ := hq
  simp only [mkO] at he
  split at he
  rotate_left
  · cases he
  rename_i hb
  cases he
  obtain ⟨b1, b2, b3, b4⟩ := hb
  intro g rd a w hview
  have hvx := rel_lit (hview.op x _ (by simp [ho, Op.operands]) hx)
  have hvy := rel_lit (hview.op y _ (by simp [ho, Op.operands]) hy)
  have hrun := run_make (P := P) w t e ie z hu hie hz kl kc l c b1 b2 b3 (by omega)
  simp only [execOp, ho, Sem.run_bind, hvx, hvy, hrun, Result.andThen_ok, Sem.run_pure]
  have hzl : (f z0).length = ie.size := by rw [← hf, castL_length, List.length_map, Array.length_toList, hzs]
  have hlen : ((List.replicate l.toNat z0).map f).length = l.toNat := by simp
  have hms : (madeCells z.cells (c.toNat * ie.size)).size = c.toNat * ie.size := size_madeCells _ _
  have hlc : l.toNat ≤ c.toNat := by omega
  have hlcs : l.toNat * ie.size ≤ c.toNat * ie.size := Nat.mul_le_mul_right _ hlc
  refine ⟨_, _, (madeCells z.cells (c.toNat * ie.size)).toList.take (l.toNat * ie.size), rfl, Ext.alloc _ _, ⟨by rw [hlen, List.length_take, Array.length_toList, hms]; omega, .inr ⟨w.heap.size, c.toNat, _, by rw [hlen], Nat.zero_le _, heap_alloc_new w _, by rw [hlen]; exact hlc, by unfold maxLen; omega, hms, by rw [hlen]⟩⟩, fun b hb' => by simp only [Value.ownBlock, Option.some.injEq] at hb'; omega, ⟨fun x hx => ?_, fun i x j y hx hy => ?_⟩⟩
  · obtain ⟨x0, hx0, rfl⟩ := List.mem_map.1 hx
    rw [(List.mem_replicate.1 hx0).2]; exact hzl
  · rw [List.getElem?_map] at hx
    obtain ⟨x0, hx0, rfl⟩ := Option.map_eq_some_iff.1 hx
    have hi : i < l.toNat := by have := (List.getElem?_eq_some_iff.1 hx0).1; simpa using this
    have hx1 : x0 = z0 := by rw [List.getElem?_replicate, if_pos hi] at hx0; cases hx0; rfl
    subst hx1
    have hj : j < ie.size := by have := (List.getElem?_eq_some_iff.1 hy).1; omega
    rw [← hf] at hy
    obtain ⟨k, y0, hy0, rfl⟩ := castL_get ks _ j y hy
    rw [List.getElem?_map] at hy0
    obtain ⟨u, hu', rfl⟩ := Option.map_eq_some_iff.1 hy0
    refine ⟨u, ?_, cast1_imm k (.lit u)⟩
    have hij : i * ie.size + j < l.toNat * ie.size := by
      have : (i + 1) * ie.size ≤ l.toNat * ie.size := Nat.mul_le_mul_right _ hi
      rw [Nat.add_mul, Nat.one_mul] at this
      omega
    rw [List.getElem?_take, if_pos hij]
    simp only [madeCells, Array.getElem?_toList, Array.getElem?_map]
    rw [Array.getElem?_eq_getElem (by simp; omega)]
    simp only [Option.map_some, Array.getElem_range, Option.some.injEq]
    rw [hzs, Nat.mul_add_mod_of_lt' hj]
    rw [Array.getElem?_toList] at hu'
    rw [getElem!_def, hu']
end
end Go.Proofs.Ytohfnlkjdjmipaa
